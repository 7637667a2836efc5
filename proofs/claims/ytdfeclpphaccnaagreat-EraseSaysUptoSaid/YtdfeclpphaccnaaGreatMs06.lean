import Derived.Test.YtdfeclpphaccnaaGreatMs05
set_option linter.all false
set_option maxHeartbeats 4000000
open Go.Proofs Go.Proofs.Tryz Cd Go.Wx Tm
namespace Go.Q
def Im(X:List Nat)(w:World):Mem:=λb o v=>Cl w.heap b o v/\b ∉ X
section
variable{X Y:List Nat}{w w':World}
theorem Im.sub(X:List Nat)(w:World):Sub (Im X w) w:=λ_ _ _ h=>h.1
end
def TmV(C:Mem)(x:Tr)(v:Value):Prop:=∃a c,v= .slice a (row x).length c/\Sl rNd C a (row x)/\(row x).length<=c
def TmsV(C:Mem)(ys:List Tr)(v:Value):Prop:=∃a c,v= .slice a ys.length c/\Sl (iv rNd) C a (ys.map row)/\ys.length<=c
open Go.Wx Cd Tm Lv
structure gZ where
 args:List (List Nd)
 out:List (List Nd)
deriving Inhabited
structure bY where
 kind:Int
 sort:List Nd
 params:List (List Nd)
 indices:List (List Nd)
 ctors:List gZ
 type:List Nd
 body:List Nd
deriving Inhabited
structure ak where
 vars:Int
 orders:List be
 ents:List bY
 nat:Int
 prims:List (Int×Int)
def rOr:Rd be where
 sz:=3
 den _ cs x:=cs=[iV x.low,iV x.add,iV x.high]/\I64 x.low/\I64 x.add/\I64 x.high
 len:=by rintro _ cs x ⟨rfl,_⟩;rfl
 mono:=by rintro _ _ cs x _ h;exact h
 one:=by rintro _ cs x ⟨rfl,_⟩ u hu;simp at hu;rcases hu with rfl|rfl|rfl<;>rfl
def rPr:Rd (Int×Int) where
 sz:=2
 den _ cs x:=cs=[iV x.1,iV x.2]/\I64 x.1/\I64 x.2
 len:=by rintro _ cs x ⟨rfl,_⟩;rfl
 mono:=by rintro _ _ cs x _ h;exact h
 one:=by rintro _ cs x ⟨rfl,_⟩ u hu;simp at hu;rcases hu with rfl|rfl<;>rfl
def SV{α:Type}(R:Rd α)(C:Mem)(l:List α)(v:Value):Prop:=∃a c,v= .slice a l.length c/\Sl R C a l/\l.length<=c
theorem SV.mono{α:Type}{R:Rd α}{C D:Mem}{l:List α}{v:Value}(h:SV R C l v)(hc:∀b o v,C b o v ->D b o v):SV R D l v:=by
 obtain⟨a,c,d,e,f⟩:=h;exact⟨a,c,d,e.mono hc,f⟩
theorem SV.one{α:Type}{R:Rd α}{C:Mem}{l:List α}{v:Value}(h:SV R C l v):v.oneCell'=true:=by
 obtain⟨a,c,rfl,_⟩:=h
 rfl
theorem TmV.sv{C:Mem}{x:Tr}{v:Value}:TmV C x v↔SV rNd C (row x) v:=Iff.rfl
theorem TmsV.sv{C:Mem}{ys:List Tr}{v:Value}:TmsV C ys v↔SV (iv rNd) C (ys.map row) v:=by
 unfold TmsV SV;simp
def rCt:Rd gZ where
 sz:=2
 den C cs x:=∃v u,cs=[v,u]/\SV (iv rNd) C x.args v/\SV (iv rNd) C x.out u
 len:=by rintro C cs x ⟨v,u,rfl,_⟩;rfl
 mono:=by rintro C C' cs x hc ⟨v,u,rfl,h1,h2⟩;exact⟨v,u,rfl,h1.mono hc,h2.mono hc⟩
 one:=by rintro C cs x ⟨v,u,rfl,h1,h2⟩ z hz;simp at hz;rcases hz with rfl|rfl;exact h1.one;exact h2.one
def rEn:Rd bY where
 sz:=7
 den C cs x:=∃v1 v2 v3 v4 v5 v6,cs=[iV x.kind,v1,v2,v3,v4,v5,v6]/\I64 x.kind/\SV rNd C x.sort v1/\SV (iv rNd) C x.params v2/\SV (iv rNd) C x.indices v3/\SV rCt C x.ctors v4/\SV rNd C x.type v5/\SV rNd C x.body v6
 len:=by rintro C cs x ⟨v1,v2,v3,v4,v5,v6,rfl,_⟩;rfl
 mono:=by rintro C C' cs x hc ⟨v1,v2,v3,v4,v5,v6,rfl,h0,h1,h2,h3,h4,h5,h6⟩;exact⟨v1,v2,v3,v4,v5,v6,rfl,h0,h1.mono hc,h2.mono hc,h3.mono hc,h4.mono hc,h5.mono hc,h6.mono hc⟩
 one:=by
  rintro C cs x ⟨v1,v2,v3,v4,v5,v6,rfl,h0,h1,h2,h3,h4,h5,h6⟩ z hz;simp at hz;rcases hz with rfl|rfl|rfl|rfl|rfl|rfl|rfl
  ·rfl
  ·exact h1.one
  ·exact h2.one
  ·exact h3.one
  ·exact h4.one
  ·exact h5.one
  ·exact h6.one
def rBo:Rd ak where
 sz:=5
 den C cs x:=∃v1 v2 v3,cs=[iV x.vars,v1,v2,iV x.nat,v3]/\I64 x.vars/\I64 x.nat/\SV rOr C x.orders v1/\SV rEn C x.ents v2/\SV rPr C x.prims v3
 len:=by rintro C cs x ⟨v1,v2,v3,rfl,_⟩;rfl
 mono:=by rintro C C' cs x hc ⟨v1,v2,v3,rfl,h0,h1,h2,h3,h4⟩;exact⟨v1,v2,v3,rfl,h0,h1,h2.mono hc,h3.mono hc,h4.mono hc⟩
 one:=by
  rintro C cs x ⟨v1,v2,v3,rfl,h0,h1,h2,h3,h4⟩ z hz;simp at hz;rcases hz with rfl|rfl|rfl|rfl|rfl
  ·rfl
  ·exact h2.one
  ·exact h3.one
  ·rfl
  ·exact h4.one
def rBd:Rd (List Nd×List Nd) where
 sz:=2
 den C cs x:=∃v u,cs=[v,u]/\SV rNd C x.1 v/\SV rNd C x.2 u
 len:=by rintro C cs x ⟨v,u,rfl,_⟩;rfl
 mono:=by rintro C C' cs x hc ⟨v,u,rfl,h1,h2⟩;exact⟨v,u,rfl,h1.mono hc,h2.mono hc⟩
 one:=by rintro C cs x ⟨v,u,rfl,h1,h2⟩ z hz;simp at hz;rcases hz with rfl|rfl;exact h1.one;exact h2.one
abbrev fI(e:Int):List PanicEntry:=[{v:=.iface 242 (.agg #[iV e]),recovered:=false}]
theorem EF(v:Value)(w:World):(Instr.makeInterface 242 v).run prog w= .ok (.iface 242 v) w:=by
 simp[Instr.makeInterface,underlying242,go_sem]
def EG(C:Mem)(x:Tr)(h u:Value):Prop:=TmV C (headT x) h/\TmsV C (argsT x) u
theorem iq':∀(ys:List Tr) (x a:Tr),an' x (ys++[a])= .mk appN [an' x ys,a]
 |[],x,a=>rfl
 |y::r,x,a=>by
  rw[List.cons_append,an',an',iq' r]
theorem kb':∀(L:Nat) (x:Tr),(row x).length<=L ->Ok .tm x ->an' (headT x) (argsT x)=x
 |0,x,hl,_=>by
  have:=aZ x;omega
 |L+1,.mk n j,hl,h=>by
  by_cases b:n.op=6
  ·obtain⟨f,a,rfl,d,k⟩:=pc h b
   have c:=h.tm.1;have e:n=appN:=by
    obtain⟨l,m,o⟩:=n;simp only at b;subst b;simp[aG]at c;simp[appN,c]
   have i:kidsT (.mk n [f,a])=[f,a]:=by simp[kidsT,b]
   have q:=ip' (.mk n [f,a]) f (by simp[i]);rw[mV b,mW b,iq',kb' L f Uo d,e]
  ·rw[n9 b,pd b]
   rfl
theorem Ft.spine{Q:Nd ->Prop}{N:Int}{x:Tr}(h:Ft Q N x):an' (headT x) (argsT x)=x:=kb' _ x (KJ _) h.ok
theorem Ft.nargs{Q:Nd ->Prop}{N:Int}{x:Tr}(h:Ft Q N x):(row x).length=(argsT x).length+((row (headT x)).length+(rows (argsT x)).length):=by
 have:=bK' (argsT x) (headT x);rw[h.spine]at this;rw[this];simp
theorem xn':∀ys:List Tr,ys.length<=(rows ys).length
 |[]=>KJ _
 |y::r=>by
  have:=aZ y;have:=xn' r;simp only[rows,JK,JV];omega
open Go.Wx Cd Tm Lv
def tr(l:List Nd):Tr:=(nW l).getD (varX 0)
theorem jJ{x:Tr}(h:Ok .tm x):tr (row x)=x:=by unfold tr;rw[DO h];rfl
def aR(B:ak)(a:Int):bY:=B.ents.getD a.toNat default
def bF(B:ak)(known:Nat)(a:Int):Bool:=decide (0<=a) && (decide (a<known) && decide ((aR B a).kind=1))
def bg(B:ak)(known:Nat)(self:Int)(m:Nd):Bool:=
 if m.op=3 then decide (m.a<=B.vars)
 else if m.op=8 then decide (0<=m.a) && (decide (m.a<known) && decide ((aR B m.a).kind=2))
 else if m.op=9 then decide (m.a=self)||bF B known m.a
 else if m.op=11 then bF B known m.a
 else if m.op=10 then bF B known m.a && decide (m.b<(aR B m.a).ctors.length)
 else true
def cw(B:ak)(known:Nat)(self:Int)(m:Nd):Prop:=bg B known self m=true
def QB(B:ak):Nd ->Prop:=cw B B.ents.length (-1)
theorem KP(B:ak)(k:Nat)(s:Int):Qk (cw B k s):=⟨λm h=>by simp[cw,bg,h],λm h=>by
 have:m.op≠3/\m.op≠8/\m.op≠9/\m.op≠11/\m.op≠10:=Uo
 simp[cw,bg,this]⟩
theorem qk(B:ak):Qk (QB B):=KP B _ _
structure GoodC(B:ak)(i:Nat)(np ni:Nat)(c:gZ)(ga go:List Tr):Prop where
 args:c.args=ga.map row
 out:c.out=go.map row
 la:ga.length<=16
 lo:go.length=ni
 fa:∀(k:Nat) y,ga[k]?=some y ->Ft (cw B i i) ((np+k:Nat):Int) y
 fo:∀y∈go,Ft (cw B i i) ((np+ga.length:Nat):Int) y
structure GoodF(B:ak)(i:Nat)(x:bY)(s:Tr)(ps qi:List Tr):Prop where
 kind:x.kind=1
 sort:x.sort=row s
 fs:Ft (cw B i (-1)) 0 s
 s2:s.n.op=2
 params:x.params=ps.map row
 indices:x.indices=qi.map row
 lp:ps.length<=16
 li:qi.length<=16
 lc:x.ctors.length<=16
 fp:∀(k:Nat) y,ps[k]?=some y ->Ft (cw B i (-1)) (k:Int) y
 fi:∀(k:Nat) y,qi[k]?=some y ->Ft (cw B i (-1)) ((ps.length+k:Nat):Int) y
 ct:∀(k:Nat) c,x.ctors[k]?=some c ->∃ga go,GoodC B i ps.length qi.length c ga go
structure zw(B:ak)(i:Nat)(x:bY)(ty bo:Tr):Prop where
 kind:x.kind=2
 type:x.type=row ty
 body:x.body=row bo
 ft:Ft (cw B i (-1)) 0 ty
 fb:Ft (cw B i (-1)) 0 bo
structure GoodB(B:ak):Prop where
 lvl:qq B.vars B.orders=0
 len:B.ents.length<=64
 ent:∀(i:Nat) x,B.ents[i]?=some x ->(∃s ps qi,GoodF B i x s ps qi) \/∃ty bo,zw B i x ty bo
theorem zx{B:ak}{k c:Nat}(h:k<=c){a:Int}(b:bF B k a=true):bF B c a=true:=by
 simp only[bF,Bool.and_eq_true,decide_eq_true_eq]at b ⊢;exact⟨b.1,Uo,b.2.2⟩
theorem EH{B:ak}{k b:Nat}{s s':Int}(h:k<=b)(a:s=s' \/bF B b s=true){m:Nd}(hm:cw B k s m):cw B b s' m:=by
 unfold cw bg at hm ⊢;split at hm
 ·rename_i g;rw[KX g];exact hm
 rename_i g;rw[KY g];split at hm
 ·rename_i g;rw[KX g]
  simp only[Bool.and_eq_true,decide_eq_true_eq]at hm ⊢;exact⟨hm.1,Uo,hm.2.2⟩
 rename_i g;rw[KY g];split at hm
 ·rename_i g;rw[KX g]
  simp only[Bool.or_eq_true,decide_eq_true_eq]at hm ⊢;rcases hm with hm|hm
  ·rcases a with a|a
   ·exact .inl Uo
   ·exact .inr (by rw[hm];exact a)
  ·exact .inr (zx h hm)
 rename_i g;rw[KY g];split at hm
 ·rename_i g;rw[KX g];exact zx h hm
 rename_i g;rw[KY g];split at hm
 ·rename_i g;rw[KX g]
  simp only[Bool.and_eq_true,decide_eq_true_eq]at hm ⊢;exact⟨zx h hm.1,hm.2⟩
 ·rename_i g;rw[KY g]
theorem mZ{B:ak}{i:Nat}(hi:i<=B.ents.length){m:Nd}(hm:cw B i (-1) m):QB B m:=EH hi (.inl rfl) hm
theorem EI{B:ak}{i:Nat}{x:bY}(hi:B.ents[i]?=some x)(a:x.kind=1){m:Nd}(hm:cw B i i m):QB B m:=by
 have b:=aM hi;refine EH Uo (.inr ?_) hm;simp[bF,aR,hi,a];exact b
section
variable{B:ak}
theorem sA{i:Nat}{x:bY}(hi:B.ents[i]?=some x):aR B (i:Int)=x:=by simp[aR,hi]
theorem GoodB.fam(d:GoodB B){k:Nat}{a:Int}(h:bF B k a=true)(m:k<=B.ents.length):∃(i:Nat) (x:bY) (s:Tr) (ps b:List Tr),a=(i:Int)/\i<k/\B.ents[i]?=some x/\aR B a=x/\GoodF B i x s ps b:=by
 simp only[bF,Bool.and_eq_true,decide_eq_true_eq]at h;obtain⟨n,o,e⟩:=h;obtain⟨i,rfl⟩:∃i:Nat,a=(i:Int):=⟨a.toNat,Uo⟩
 obtain⟨x,c,_⟩:=ay (l:=B.ents) (k:=i);rw[sA c]at e ⊢;rcases d.ent i x c with ⟨s,ps,b,f⟩|⟨q,r,j⟩
 ·exact⟨i,x,s,ps,b,rfl,Uo,c,rfl,f⟩
 ·have:=j.kind
  omega
theorem GoodB.dfn(c:GoodB B){m:Nd}(h:QB B m)(d:m.op=8):∃(i:Nat) (x:bY) (ty bo:Tr),m.a=(i:Int)/\B.ents[i]?=some x/\aR B m.a=x/\zw B i x ty bo:=by
 simp only[QB,cw,bg,d]at h;simp at h;obtain⟨o,e,b⟩:=h;obtain⟨i,f⟩:∃i:Nat,m.a=(i:Int):=⟨m.a.toNat,Uo⟩
 rw[f]at b e ⊢;obtain⟨x,a,_⟩:=ay (l:=B.ents) (k:=i);rw[sA a]at b ⊢;rcases c.ent i x a with ⟨s,q,r,j⟩|⟨ty,bo,n⟩
 ·have:=j.kind
  omega
 ·exact⟨i,x,ty,bo,rfl,a,rfl,n⟩
theorem iS{m:Nd}(h:QB B m)(h1:m.op=10 \/m.op=11):bF B B.ents.length m.a=true:=by
 rcases h1 with h1|h1
 ·simp[QB,cw,bg,h1]at h
  exact h.1
 ·simp[QB,cw,bg,h1]at h
  exact h
theorem zy{m:Nd}(h:QB B m)(h1:m.op=9)(a:0<=m.a):bF B B.ents.length m.a=true:=by
 simp[QB,cw,bg,h1]at h;rcases h with h|h
 ·omega
 ·exact h
theorem uV{m:Nd}(h:QB B m)(h1:m.op=10):m.b<(aR B m.a).ctors.length:=by
 simp[QB,cw,bg,h1]at h;exact h.2
theorem GoodF.up_p(d:GoodB B){i:Nat}{x:bY}{s:Tr}{ps a:List Tr}(hi:B.ents[i]?=some x)(h:GoodF B i x s ps a){k:Nat}{y:Tr}(b:ps[k]?=some y):Ft (QB B) (k:Int) y:=
 (h.fp k y b).wk λm c=>mZ (Nat.le_of_lt (aM hi)) c
theorem GoodF.up_i(d:GoodB B){i:Nat}{x:bY}{s:Tr}{ps a:List Tr}(hi:B.ents[i]?=some x)(h:GoodF B i x s ps a){k:Nat}{y:Tr}(b:a[k]?=some y):Ft (QB B) ((ps.length+k:Nat):Int) y:=
 (h.fi k y b).wk λm c=>mZ (Nat.le_of_lt (aM hi)) c
theorem GoodC.up_a{i:Nat}{x:bY}(hi:B.ents[i]?=some x)(d:x.kind=1){a e:Nat}{c:gZ}{b go:List Tr}(h:GoodC B i a e c b go){k:Nat}{y:Tr}(f:b[k]?=some y):Ft (QB B) ((a+k:Nat):Int) y:=
 (h.fa k y f).wk λm j=>EI hi d j
theorem GoodC.up_o{i:Nat}{x:bY}(hi:B.ents[i]?=some x)(d:x.kind=1){a e:Nat}{c:gZ}{b go:List Tr}(h:GoodC B i a e c b go){y:Tr}(f:y∈go):Ft (QB B) ((a+b.length:Nat):Int) y:=
 (h.fo y f).wk λm j=>EI hi d j
end
abbrev Ctx:=List (Tr×Option Tr)
def nF':Option Tr ->List Nd
 |none=>[]
 |some x=>row x
def aA(q:Tr×Option Tr):List Nd×List Nd:=(row q.1,nF' q.2)
def CxOk(B:ak)(c:Ctx):Prop:=∀(i:Nat) q,c[i]?=some q ->Ft (QB B) (i:Int) q.1/\∀x,q.2=some x ->Ft (QB B) (i:Int) x
theorem CxOk.snoc{B:ak}{c:Ctx}(h:CxOk B c){t:Tr}{v:Option Tr}(b:Ft (QB B) (c.length:Int) t)(d:∀x,v=some x ->Ft (QB B) (c.length:Int) x):CxOk B (c++[(t,v)]):=λi q a=>by
 by_cases f:i<c.length
 ·rw[QH f]at a
  exact h i q a
 ·rw[QU Uo]at a
  have e:i-c.length=0:=by
   have:=aM a;simp at this;omega
  rw[e]at a;simp only[List.getElem?_cons_zero,QZ]at a;subst a;rw[show i=c.length by omega];exact⟨b,d⟩
def fY(c:Ctx)(a:Int):Tr×Option Tr:=c.getD (c.length-1-a.toNat) (varX 0,none)
theorem oe{c:Ctx}{a:Int}(d:0<=a)(h1:a<c.length):c[c.length-1-a.toNat]?=some (fY c a):=by
 unfold fY;rw[QK];obtain⟨x,b,_⟩:=ay (l:=c) (k:=c.length-1-a.toNat);rw[b]
 rfl
abbrev zz(v1 v2 v3 v4:Value)(C:Mem)(w:World)(bm:Nat)(B:ak)(c:Ctx)(n:Nat):Prop:=Bk w.heap bm [iV B.vars,v1,v2,iV B.nat,v3,v4,iV (n:Int)] 245/\SV rOr C B.orders v1/\SV rEn C B.ents v2/\SV rPr C B.prims v3/\SV rBd C (c.map aA) v4
def KR(C:Mem)(w:World)(bm:Nat)(B:ak)(c:Ctx)(n:Nat):Prop:=∃v1 v2 v3 v4,zz v1 v2 v3 v4 C w bm B c n
def BoV(C:Mem)(B:ak)(v:Value):Prop:=∃v1 v2 v3,v= .agg #[iV B.vars,v1,v2,iV B.nat,v3]/\SV rOr C B.orders v1/\SV rEn C B.ents v2/\SV rPr C B.prims v3
def fJ(B:ak)(a:Int):Nat:=(aR B a).params.length
def cS(B:ak)(a b:Int):gZ:=(aR B a).ctors.getD b.toNat default
def iT(B:ak)(n:Nd)(s:Tr):Bool:=
 let c:=(headT s).n
 decide (c.op=10) && (decide (c.a=n.a) && (decide (c.b<n.b) && decide ((argsT s).length=fJ B n.a+(cS B n.a c.b).args.length)))
theorem _root_.Tm.Ok.pl{x:Tr}(h:Ok .tm x):aG x.n=true:=by
 obtain⟨n,a⟩:=x;exact h.tm.1
theorem Ft.node'{Q:Nd ->Prop}{N:Int}{x:Tr}(h:Ft Q N x):Q x.n:=by
 obtain⟨n,a⟩:=x;exact h.node
theorem EJ{ks:List Tr}{k:Nat}{f:Tr}(h:ks[k]?=some f):rows ks=rows (ks.take k)++(row f++rows (ks.drop (k+1))):=by
 obtain⟨g,a,b⟩:=ay (aM h);rw[h]at a;obtain rfl:=JB a;have:=bF' (ks.take k) (ks.drop k);rw[List.take_append_drop,b]at this;rw[this]
 rfl
theorem lM{x:Tr}(o:Ok .tm x)(a:x.n.op=12){k:Nat}{f:Tr}(b:x.ks[k]?=some f):∃ty bo,f= .mk f.n [ty,bo]/\f.n.op=13/\aG f.n=true/\Ok .tm ty/\Ok .tm bo/\
  row x=(x.n::rows (x.ks.take k))++(row f++rows (x.ks.drop (k+1)))/\(row x)[1+(rows (x.ks.take k)).length]?=some f.n/\
  row x=(x.n::(rows (x.ks.take k)++[f.n]))++(row ty++(row bo++rows (x.ks.drop (k+1))))/\row x=(x.n::(rows (x.ks.take k)++(f.n::row ty)))++(row bo++rows (x.ks.drop (k+1))):=by
 obtain⟨n,d⟩:=x;simp only[Tr.n,Tr.ks]at a b ⊢;obtain⟨r,e,q⟩:=o.kids;have h:Ok .fn f:=⟨by
  have:=jF d 0 k f e b
  rwa [show nx Md.tm n (0+k)= .fn by simp[nx,a]]at this,dK' d k f q b⟩
 obtain⟨g,ty,bo,rfl,i,j,l,m⟩:=h.fn;have c:=EJ b;refine⟨ty,bo,rfl,i,j,l,m,by simp[row,c],?_,by simp[row,c,rows],by simp[row,c,rows]⟩;show (n::rows d)[1+_]?=_;rw[Nat.add_comm,List.getElem?_cons_succ,c,QU (KJ _),Nat.sub_self]
 rfl
theorem dp{x:Tr}(d:Ok .tm x)(a:x.n.op=12):(x.ks.length:Int)=x.n.b/\1<=x.n.b/\x.n.b<=4/\0<=x.n.a/\x.n.a<x.n.b:=by
 obtain⟨n,j⟩:=x;simp only[Tr.n,Tr.ks]at a ⊢;obtain⟨e,f,k⟩:=d.kids;obtain⟨h,_,_,c⟩:=fq e;have i:n.op≠2:=Uo
 have b:aX n.b 1 4=true/\aX n.a 0 (n.b-1)=true:=by simpa[aG,a]using h
 have l:=dE.1 b.1;have m:=dE.1 b.2;rw[KY i]at c;simp[bv,a]at c;omega
def bW(x:Tr):Int:=((x.ks[x.n.a.toNat]?).map λf=>f.n.a).getD 0
theorem og{x:Tr}(e:Ok .tm x)(a:x.n.op=12):∃f,x.ks[x.n.a.toNat]?=some f/\bW x=f.n.a/\0<=bW x/\bW x<=15:=by
 have i:=dp e a;obtain⟨f,b,_⟩:=ay (l:=x.ks) (k:=x.n.a.toNat);obtain⟨j,m,_,c,h,_⟩:=lM e a b;have:bW x=f.n.a:=by simp[bW,b]
 have d:aX f.n.a 0 15=true:=by
  have:aX f.n.a 0 15=true/\f.n.b=0:=by simpa[aG,c]using h
  exact this.1
 have:=dE.1 d;exact⟨f,b,by assumption,Uo,Uo⟩
def kidD(x:Tr)(k:Nat):Tr:=(kidsT x).getD k (varX 0)
def cD(B:ak)(cx:Ctx)(x:Tr):Bool:=
 let h:=headT x
 if h.n.op=5 then decide (0<(argsT x).length)
 else if h.n.op=7 \/h.n.op=8 then true
 else if h.n.op=1 then (fY cx h.n.a).2.isSome
 else if h.n.op=11 then iT B h.n (kidD h 1)
 else if h.n.op=12 then decide (bW h<(argsT x).length) && decide ((headT ((argsT x).getD (bW h).toNat (varX 0))).n.op=10)
 else false
theorem KS(o:Option Tr):0<(nF' o).length↔o.isSome=true:=by
 cases o with
 |none=>simp[nF']
 |some x=>
  have:=aZ x;simp[nF',this]
theorem hH{x:Tr}(f:Ok .tm x)(a:x.n.op=11):kidsT x=x.ks/\(x.ks.length:Int)=2+x.n.b/\0<=x.n.b/\x.n.b<=16:=by
 obtain⟨n,k⟩:=x;simp only[Tr.n,Tr.ks]at a ⊢;obtain⟨h,i,l⟩:=f.kids;obtain⟨j,_,_,d⟩:=fq h;have e:n.op≠2:=Uo
 have b:n.op≠12:=Uo
 have c:aX n.b 0 16=true:=by
  have:aX n.a 0 63=true/\aX n.b 0 16=true:=by simpa[aG,a]using j
  exact this.2
 have m:=dE.1 c;rw[KY e]at d;simp[bv,a]at d;exact⟨by simp[kidsT,e,b],Uo,Uo,Uo⟩
theorem Ft.kidD{Q:Nd ->Prop}{N:Int}{x:Tr}(h:Ft Q N x){k:Nat}(b:k<(kidsT x).length):(kidsT x)[k]?=some (kidD x k)/\Ft Q (N+kb x.n k) (kidD x k):=by
 obtain⟨y,a,_⟩:=ay (l:=kidsT x) (k:=k) b;have e:Go.Q.kidD x k=y:=by simp[Go.Q.kidD,a]
 rw[e];refine⟨a,?_⟩;obtain⟨n,c⟩:=x;exact h.kid a
def Cn(C:Mem)(w w':World):Mem:=λb o v=>C b o v \/New w.heap.size w' b o v
section
variable{C:Mem}{w w' w2:World}
theorem Cn.sub(a:Sub C w)(k:Kp [] w w'):Sub (Cn C w w') w':=λb o v h=>h.elim (λh=>(a _ _ _ h).kp k Ud) λh=>h.2.cl
end
def fK(x:Tr)(k:Int):Tr:=(argsT x).getD k.toNat (varX 0)
def cE(x:Tr):Option Tr:=
 if (headT x).n.op=11 then some (kidD (headT x) 1)
 else if (headT x).n.op=12 then (if bW (headT x)<(argsT x).length then some (fK x (bW (headT x)))else none)
 else none
section
variable{C:Mem}{w:World}{Q:Nd ->Prop}{N:Int}{x:Tr}
theorem kQ(a:Ft Q N x){p:Tr}(h:cE x=some p):Ft Q N p/\(row p).length<(row x).length:=by
 have s:=a.nargs;unfold cE at h;split at h
 ·rename_i g
  obtain⟨i,j,_,_⟩:=hH a.head.ok g;obtain⟨m,d⟩:=a.head.kidD (k:=1) (by rw[i];omega);have b:kb (headT x).n 1=0:=by simp[kb,bh,g]
  rw[b,Int.add_zero]at d;obtain rfl:=JB h;have:=ip' (headT x) _ (JQ m);exact⟨d,Uo⟩
 ·split at h
  ·rename_i g
   split at h
   ·rename_i t
    obtain rfl:=JB h;obtain⟨f,u,o,q,r⟩:=og a.head.ok g;obtain⟨y,c,_⟩:=ay (l:=argsT x) (k:=(bW (headT x)).toNat);have e:fK x (bW (headT x))=y:=by simp[fK,c]
    rw[e];have:=eO' (JQ c);have:=aZ (headT x);exact⟨a.args y (JQ c),Uo⟩
   ·cases h
  ·cases h
end
theorem K0{C:Mem}{w:World}(j:Sub C w)(l:List Value)(a:Option Addr)(c:Nat)(hl:Sl rVal C a l)(i:l.length<=1000000):
  CC 214 #[.slice a l.length c] w (λe w'=>(∃v,e= .returned v/\Own rVal 29 w.heap.size w' v l)/\Kp [] w w'):=by
 refine oF func214 ?_;refine cO (args:=[_]) 8 [.tmp 2] τok func214 ?_;refine Dh τok rfl ?_;cases a with
 |none=>
  obtain rfl:=hl.none_nil;exact⟨⟨_,rfl,Own.nil _ _ (KJ _)⟩,Kp.refl _ _⟩
 |some a=>
  refine fill [] rfl<|jC λo q k b m d=>?_;refine(Own.empty rVal b (lo:=w.heap.size) Uo).apF τok rfl rfl UO AQ' (j.tr d) l hl (by simp only[JU];omega) (by simp only[JU,maxLen];omega) λn w2 f h _=>?_;rw[List.nil_append]at f;exact⟨⟨n,rfl,f⟩,d.own h (Own.empty rVal b (lo:=w.heap.size) Uo)⟩
theorem zA{P:Program}{τ:Tau}(b:aS P τ){T e sz bs:Nat}(l:Go.Wx.look τ.slcs T=some (e,sz,bs)){a:Option Addr}{len cap:Nat}{w:World}{k:Value ->World ->Prop}{j d:IntKind}{i i':Int}(h m:Nat)(hi:i=h)(c:i'=m)(h1:h<=m)(h2:m<=cap)(n:k (sliced a 0 h m sz) w):EvRun P (Instr.sliceAt T (.slice a len cap) none (some (.int j i)) (some (.int d i'))) w k:=by
 obtain⟨f,o⟩:=ji' b l;subst hi c;refine run ?_ n;rw[run_sliceAt_slice w T _ _ _ _ f,run_slice_hm w T a len cap f j d h m Uo Uo Uo,o]
 rfl
theorem K1(n:Nat)(a:n<=1000000)(w:World):
  CC 242 #[.slice none 0 0,iV (n:Int)] w (λe w'=>∃v,e= .returned v/\Own rVal 29 w.heap.size w' v []/\Kp [] w w'):=by
 refine oF func242 ?_;refine cO (args:=[_,_]) 27 [.tmp 4] τok func242 ?_;refine mX rfl<|i6 ?_;refine i6 ?_;refine dm (λg=>?_) (λg=>?_);rotate_left
 ·exact⟨_,rfl,Own.nil _ _ (KJ _),Kp.refl _ _⟩
 have b:0<n:=by
  have g:(0:Int)<(n:Int)-((0:Nat)-(0:Nat):Int):=g;omega
 refine mX rfl<|nL τok rfl 0 (.slice none 0 0) rfl (KJ _) rfl ?_;have e:((n:Int)-((0:Nat)-(0:Nat):Int))=(n:Int):=Uo
 rw[e];refine uK (R:=rVal) rfl rfl UO rfl UO n b a λB G f h i c d=>?_;exact nL τok rfl 0 _ rfl (KV _) oP<|⟨_,rfl,c,d⟩
def fixAt(x:Tr)(i:Int):Tr:=.mk {x.n with a:=i} x.ks
def bq(b u:Tr)(v:Int):Except Int Tr:=if gY b u v=true then .error 9 else .ok (fH b u v)
def j8(x:Tr):Nat ->Tr ->Except Int Tr
 |0,b=>.ok b
 |i+1,b=>(bq b (aK (fixAt x i) i 0) 0).bind (j8 x i)
def lN(x:Tr):Except Int Tr:=j8 x x.n.b.toNat (kidD x (2*x.n.a.toNat+1))
section
variable{C:Mem}{w:World}{Q:Nd ->Prop}{N:Int}{x:Tr}
theorem Ft.fixAt(A:Qk Q)(c:Ft Q N x)(b:x.n.op=12){i:Int}(F:0<=i)(hi:i<x.n.b):Ft Q N (fixAt x i):=by
 obtain⟨n,t⟩:=x;have D:=dp c.ok b;simp only[Tr.n,Tr.ks]at b hi D;unfold Go.Q.fixAt;simp only[Tr.n,Tr.ks];obtain⟨E,j,u⟩:=c.ok.kids;have v:=c.ok.tm.1;have m:aG {n with a:=i}=true:=by
  have:aX n.b 1 4=true/\aX n.a 0 (n.b-1)=true:=by simpa[aG,b]using v
  simp[aG,b,this.1];rw[dE];omega
 have o:bv {n with a:=i}=bv n:=by simp[bv,b]
 have r:∀k,nx .tm {n with a:=i} k=nx .tm n k:=λk=>by simp[nx]
 refine⟨⟨⟨?_,?_⟩,?_⟩,?_,?_,?_⟩
 ·rw[<- E]
  simp only[cnt,v,m,o]
 ·have:∀(l:List Tr) (k:Nat),bC cnt nx l n .tm k ->bC cnt nx l {n with a:=i} .tm k:=by
   intro l
   induction l with
   |nil=>intros;trivial
   |cons y l s=>intro k h;exact⟨by rw[r];exact h.1,s _ h.2⟩
  exact this t 0 j
 ·have:=c.ok.2
  simpa[gQ']using this
 ·have:=c.len
  simpa[row]using this
 ·have z:n.op≠1:=Uo
  have hb:∀q∈varsK t n 0 0 0,q.1-q.2<N:=λq f=>c.bl q (by simpa[varsT,z]using f);have e:∀(l:List Tr) (k d:Int),varsK l {n with a:=i} 0 k d=varsK l n 0 k d:=by
   intro l
   induction l with
   |nil=>intros;rfl
   |cons y l s=>intro k d;simp only[varsK,s];rfl
  intro q f;simp only[varsT,z,if_false]at f;rw[e]at f;exact hb q f
 ·rw[lJ]
  exact⟨A.app _ Us,(lJ.1 c.al).2⟩
theorem fA{x:Tr}(b:Ok .tm x)(a:x.n.op=12):((kidsT x).length:Int)=2*x.n.b:=by
 have d:=dp b a;obtain⟨n,h⟩:=x;simp only[Tr.n,Tr.ks]at a d;obtain⟨o,j,q⟩:=b.kids;have l:n.op≠2:=Uo
 have:∀k∈h,k.ks.length=2:=λf m=>by
  obtain⟨i,c⟩:=JH m;obtain⟨r,s,e,_⟩:=lM b a (k:=i) (f:=f) c;rw[e]
  rfl
 simp only[kidsT,KY l,KX a,Tr.n];rw[gf' this];omega
theorem jk(c:Qk Q){b u z:Tr}{v:Int}(hb:Ft Q (N+1+v) b)(d:Ft Q N u)(e:0<=N)(f:N<=100000)(a:0<=v)(i:v<=300000)(h:bq b u v= .ok z):Ft Q (N+v) z:=by
 unfold bq at h;split at h
 ·cases h
 ·rename_i g
  injection h with h
  subst h;exact hb.subst c d e f a i (by simpa using g)
theorem EK(c:Qk Q)(d:Ft Q N x)(a:x.n.op=12)(f:0<=N)(j:N<=90000):∀(i:Nat) (b z:Tr),(i:Int)<=x.n.b ->Ft Q (N+i) b ->j8 x i b= .ok z ->Ft Q N z
 |0,b,z,_,hb,h=>by
  simp only[j8,Except.ok.injEq]at h;subst h;exact hb.mono Ud
 |i+1,b,z,hi,hb,h=>by
  simp only[j8]at h;have hl:=dp d.ok a;have k:=(d.fixAt c a (i:=i) Uo Uo).lift c (b:=i) Uo Uo Uo;cases e:bq b (aK (Go.Q.fixAt x i) i 0) 0 with
  |error m=>rw[e]at h;cases h
  |ok y=>
   rw[e]at h;have l:=jk c (N:=N+i) (v:=0) (hb.mono Uo) k Uo Uo Uo Uo e;exact EK c d a f j i y z Uo (l.mono Uo) h
theorem zB(e:Qk Q)(b:Ft Q N x)(a:x.n.op=12)(f:0<=N)(i:N<=90000){z:Tr}(h:lN x= .ok z):Ft Q N z:=by
 have j:=dp b.ok a;have l:=fA b.ok a;obtain⟨_,d⟩:=b.kidD (k:=2*x.n.a.toNat+1) Uo;have c:kb x.n (2*x.n.a.toNat+1)=x.n.b:=by
  unfold kb;rw[KX a,KX Uo]
 rw[c]at d;exact EK e b a f i x.n.b.toNat _ z Uo (d.mono Uo) h
end
theorem ir':∀(ys:List Tr) (x:Tr),Ok .tm x ->headT (an' x ys)=headT x/\argsT (an' x ys)=argsT x++ys
 |[],x,_=>by simp[an']
 |y::r,x,i=>by
  rw[an'];have b:appN.op=6:=rfl;have e:headT (.mk appN [x,y])=headT x:=mV b;have f:argsT (.mk appN [x,y])=argsT x++[y]:=mW b;have:∀(l:List Tr) (z:Tr),headT (an' z l)=headT z/\argsT (an' z l)=argsT z++l:=by
   intro l
   induction l with
   |nil=>intro z;simp[an']
   |cons a l h=>
    intro z;rw[an'];obtain⟨c,d⟩:=h (.mk appN [z,a]);rw[c,d,mV b,mW b];simp
  obtain⟨c,d⟩:=this r (.mk appN [x,y]);rw[c,d,e,f];simp
theorem Ft.match{Q:Nd ->Prop}{N:Int}{n:Nd}{ks:List Tr}(t:aG n=true)(e:n.op=11)(a:Q n)(hl:(ks.length:Int)=2+n.b)(b:∀k∈ks,Ft Q N k)(f:(row (.mk n ks)).length<=4096):Ft Q N (.mk n ks):=by
 have i:n.op≠2:=Uo
 have u:n.op≠1:=Uo
 have o:n.op≠12:=Uo
 have r:n.op≠13:=Uo
 refine⟨⟨⟨?_,?_⟩,?_⟩,f,?_,?_⟩
 ·simp only[cnt,t,i]
  rw[KX ⟨trivial,Uo,Uo⟩];simp[bv,e];omega
 ·have:∀(l:List Tr) (j:Nat),(∀k∈l,Ok .tm k) ->bC cnt nx l n .tm j:=by
   intro l
   induction l with
   |nil=>intros;trivial
   |cons y l c=>
    intro j h;exact⟨by rw[show nx Md.tm n j= .tm by simp[nx,i,o]];exact(h y Ud).1,c _ λk b=>h k (by simp[b])⟩
  exact this ks 0 λk h=>(b k h).ok
 ·have:∀(l:List Tr),(∀k∈l,Ok .tm k) ->fc' l=true:=by
   intro l
   induction l with
   |nil=>intros;rfl
   |cons y l c=>
    intro h;simp[fc',(h y Ud).2,c λk b=>h k (by simp[b])]
  simp[gQ',i,this ks λk h=>(b k h).ok]
 ·intro q a
  simp only[varsT,KY u]at a;have:∀(l:List Tr) (j:Int),(∀k∈l,Ft Q N k) ->∀q∈varsK l n 0 j 0,q.1-q.2<N:=by
   intro l
   induction l with
   |nil=>intro j _ q a;simp[varsK]at a
   |cons y l c=>
    intro j h q a;simp only[varsK,JW]at a;rcases a with a|a
    ·have s:=h y Ud
     have:bh n j=0:=by simp[bh,e]
     rw[mU r,this]at a;exact(s.ok.bld (d:=0+0) (nb:=n.b)).2 (s.bl.mono Uo) q a
    ·exact c _ (λk b=>h k (by simp[b])) q a
  exact this ks 0 b q a
 ·rw[lJ]
  refine⟨a,?_⟩;have:∀(l:List Tr),(∀k∈l,Ft Q N k) ->lI Q l:=by
   intro l
   induction l with
   |nil=>intro _ m v;simp[rows]at v
   |cons y l c=>
    intro h;rw[oa];exact⟨(h y Ud).al,c λk b=>h k (by simp[b])⟩
  exact this ks b
def bN(x p:Tr):Tr:=
 if (headT x).n.op=11 then an' (.mk (headT x).n ((headT x).ks.set 1 p)) (argsT x)
 else an' (headT x) ((argsT x).set (bW (headT x)).toNat p)
theorem me':∀(l:List Tr) (k:Nat) (y p:Tr),l[k]?=some y ->(rows (l.set k p)).length+(row y).length=(rows l).length+(row p).length
 |x::r,0,y,p,h=>by
  simp only[List.getElem?_cons_zero,QZ]at h;subst h;simp[rows];omega
 |x::r,k+1,y,p,h=>by
  have:=me' r k y p (by simpa using h);simp[rows];omega
section
variable{C:Mem}{w:World}{Q:Nd ->Prop}{N:Int}{x p:Tr}
theorem sB(b:Ft Q N x){y:Tr}(a:cE x=some y):(row (bN x p)).length+(row y).length=(row x).length+(row p).length:=by
 have q:=b.nargs;unfold cE at a;unfold bN;split at a
 ·rename_i g
  rw[KX g];obtain⟨c,i,_,_⟩:=hH b.head.ok g;obtain⟨d,_⟩:=b.head.kidD (k:=1) (by rw[c];omega);rw[c]at d;obtain rfl:=JB a;have:=me' _ 1 _ p d;have e:(row (headT x)).length=1+(rows (headT x).ks).length:=by
   cases headT x;simp[row,Tr.ks];omega
  rw[bK'];simp only[row,JK,List.length_replicate,JV];omega
 ·rename_i g
  rw[KY g];split at a
  ·rename_i j
   split at a
   ·rename_i r
    obtain⟨f,s,m,n,o⟩:=og b.head.ok j;obtain⟨z,h,_⟩:=ay (l:=argsT x) (k:=(bW (headT x)).toNat);have e:fK x (bW (headT x))=z:=by simp[fK,h]
    rw[e]at a;obtain rfl:=JB a;have:=me' _ _ _ p h;rw[bK'];simp only[JK,List.length_replicate,List.length_set];omega
   ·cases a
  ·cases a
theorem zC(s:Qk Q)(b:Ft Q N x)(t:Ft Q N p){y:Tr}(u:cE x=some y)(hl:(row (bN x p)).length<=4096):Ft Q N (bN x p)/\headT (bN x p)=(if (headT x).n.op=11 then .mk (headT x).n ((headT x).ks.set 1 p)else headT x)/\argsT (bN x p)=if (headT x).n.op=11 then argsT x else (argsT x).set (bW (headT x)).toNat p:=by
 have q:∀n:Nd,n.op=11 ->∀d,headT (.mk n d)= .mk n d/\argsT (.mk n d)=[]:=λn h d=>⟨n9 Uo,pd Uo⟩
 have j:headT (headT x)=headT x/\argsT (headT x)=[]:=by
  have:∀(L:Nat) (x:Tr),(row x).length<=L ->Ok .tm x ->headT (headT x)=headT x/\argsT (headT x)=[]:=by
   intro L
   induction L with
   |zero=>intro x hl;have:=aZ x;omega
   |succ L D=>
    rintro⟨n,d⟩ hl E
    by_cases e:n.op=6
    ·obtain⟨f,a,rfl,F,O⟩:=pc E e
     have l:kidsT (.mk n [f,a])=[f,a]:=by simp[kidsT,e]
     have P:=ip' (.mk n [f,a]) f (by simp[l]);rw[mV e];exact D f Uo F
    ·rw[n9 e]
     exact⟨n9 e,pd e⟩
  exact this _ x (KJ _) b.ok
 unfold cE at u;unfold bN at hl ⊢;split at u
 ·rename_i g
  rw[KX g]at hl ⊢;obtain⟨l,H,_,_⟩:=hH b.head.ok g;have v:Ft Q N (.mk (headT x).n ((headT x).ks.set 1 p)):=by
   refine Ft.match b.head.ok.pl g b.head.node' Uk (λk c=>?_) ?_
   ·rcases List.mem_or_eq_of_mem_set c with h|rfl
    ·obtain⟨i,z⟩:=JH h
     have A:=b.head;cases I:headT x with
     |mk n d=>
      rw[I]at A z l g;have:=A.kid (k:=i) (y:=k) (by rw[l];exact z);simp only[Tr.n]at g;have r:kb n i=0:=by simp[kb,bh,g]
      rwa [r,Int.add_zero]at this
    ·exact t
   ·rw[bK']at hl
    simp only[JK,List.length_replicate]at hl;omega
  refine⟨Ft.apply s v b.args hl,?_⟩;obtain⟨m,o⟩:=ir' (argsT x) _ v.ok;obtain⟨K,M⟩:=q (headT x).n g ((headT x).ks.set 1 p);rw[K]at m;rw[M]at o;rw[m,o,KX g,KX g];exact⟨rfl,rfl⟩
 ·rename_i g
  rw[KY g]at hl ⊢;refine⟨Ft.apply s b.head (λk c=>?_) hl,?_⟩
  ·rcases List.mem_or_eq_of_mem_set c with h|rfl
   ·exact b.args k h
   ·exact t
  ·obtain⟨m,o⟩:=ir' ((argsT x).set (bW (headT x)).toNat p) _ b.head.ok
   rw[m,o,j.1,j.2,KY g,KY g];exact⟨rfl,rfl⟩
theorem zD(a:Qk Q)(b:Ft Q N x)(c:Ft Q N p){y:Tr}(d:cE x=some y)(hl:(row (bN x p)).length<=4096):Ft Q N (bN x p)/\EG C (bN x p)=λh u=>TmV C (if (headT x).n.op=11 then .mk (headT x).n ((headT x).ks.set 1 p)else headT x) h/\TmsV C (if (headT x).n.op=11 then argsT x else (argsT x).set (bW (headT x)).toNat p) u:=by
 obtain⟨e,f,i⟩:=zC a b c d hl;refine⟨e,?_⟩
 funext h u
 rw[EG,f,i]
end
theorem m8{x:Tr}(b:Ok .tm x)(h2:x.n.op≠2)(a:x.n.op≠12):kidsT x=x.ks/\(x.ks.length:Int)=bv x.n:=by
 obtain⟨n,h⟩:=x;simp only[Tr.n,Tr.ks]at h2 a ⊢;obtain⟨c,d,i⟩:=b.kids;obtain⟨e,_,_,f⟩:=fq c;have:=nX e;rw[KY h2]at f;exact⟨by simp[kidsT,h2,a],Uo⟩
theorem K2{x:Tr}{k:Nat}{y:Tr}(h:x.ks[k]?=some y):row x=(x.n::rows (x.ks.take k))++(row y++rows (x.ks.drop (k+1))):=by
 obtain⟨n,a⟩:=x;simp only[Tr.n,Tr.ks]at h ⊢;have:=EJ h;simp[row,this]
def aO(x:Tr)(ys:List Tr):Except Int Tr:=if 4096<(row (an' x ys)).length then .error 9 else .ok (an' x ys)
def hY(B:ak)(cx:Ctx)(x:Tr):Except Int Tr:=
 let h:=headT x
 let l:=argsT x
 if h.n.op=5 then (bq (kidD h 1) (l.getD 0 (varX 0)) 0).bind λs=>aO s (l.drop 1)
 else if h.n.op=7 then (bq (kidD h 2) (kidD h 1) 0).bind λs=>aO s l
 else if h.n.op=1 then aO (aK ((fY cx h.n.a).2.getD (varX 0)) (h.n.a+1) 0) l
 else if h.n.op=8 then aO (tr (aR B h.n.a).body) l
 else if h.n.op=11 then aO (kidD h (2+(headT (kidD h 1)).n.b.toNat)) ((argsT (kidD h 1)).drop (fJ B h.n.a)++l)
 else (lN h).bind λu=>aO u l
section
variable{B:ak}{cx:Ctx}{x:Tr}
theorem gG{Q:Nd ->Prop}{N:Int}(a:Qk Q){s:Tr}{l:List Tr}(b:Ft Q N s)(hl:∀y∈l,Ft Q N y){z:Tr}(h:aO s l= .ok z):Ft Q N z:=by
 unfold aO at h;split at h
 ·cases h
 ·injection h with h
  subst h;exact Ft.apply a b hl Uo
theorem EL(i:GoodB B){n:Nd}{s:Tr}{N:Int}(c:Ft (QB B) N s)(h:iT B n s=true):(headT s).n.op=10/\(headT s).n.a=n.a/\0<=(headT s).n.b/\(headT s).n.b<n.b/\fJ B n.a<=(argsT s).length:=by
 simp only[iT,Bool.and_eq_true,decide_eq_true_eq]at h;obtain⟨d,e,f,j⟩:=h;have:=dn c.head.ok.pl;exact⟨d,e,Uo,f,Uo⟩
theorem Ft.kidN{Q:Nd ->Prop}{N:Int}(h:Ft Q N x)(k:Nat)(a:k<(kidsT x).length){b:Int}(hb:kb x.n k=b):Ft Q (N+b) (Go.Q.kidD x k):=by
 have:=(h.kidD a).2
 rwa [hb]at this
theorem uW(T:GoodB B)(I:CxOk B cx)(hN:cx.length<=90000)(f:Ft (QB B) (cx.length:Int) x)(hr:cD B cx x=true){z:Tr}(h:hY B cx x= .ok z):Ft (QB B) (cx.length:Int) z:=by
 have d:=qk B;have c:=f.head;unfold cD at hr;unfold hY at h;simp only at h hr;split at h
 ·rename_i g
  rw[KX g]at hr;have hr:=of_decide_eq_true hr;obtain⟨j,D⟩:=m8 c.ok Uo Uo;have K:bv (headT x).n=2:=by simp[bv,g]
  have hb:=c.kidN 1 (by rw[j];omega) (b:=1) (by simp[kb,bh,g]);obtain⟨a,U,_⟩:=ay (l:=argsT x) (k:=0) hr;have Z:(argsT x).getD 0 (varX 0)=a:=by simp[U]
  rw[Z]at h;cases e:bq (kidD (headT x) 1) a 0 with
  |error V=>rw[e]at h;cases h
  |ok s=>
   rw[e]at h;have r:=jk d (N:=(cx.length:Int)) (v:=0) (hb.mono Uo) (f.args a (JQ U)) Uo Uo Uo Uo e;exact gG d (r.mono Uo) (λy o=>f.args y (List.mem_of_mem_drop o)) h
 rename_i g;rw[KY g]at hr;split at h
 ·rename_i F
  obtain⟨j,D⟩:=m8 c.ok Uo Uo;have K:bv (headT x).n=3:=by simp[bv,F]
  have hb:=c.kidN 2 (by rw[j];omega) (b:=1) (by simp[kb,bh,F]);have H:=c.kidN 1 (by rw[j];omega) (b:=0) (by simp[kb,bh,F]);cases e:bq (kidD (headT x) 2) (kidD (headT x) 1) 0 with
  |error V=>rw[e]at h;cases h
  |ok s=>
   rw[e]at h;have r:=jk d (N:=(cx.length:Int)) (v:=0) (hb.mono Uo) (H.mono Uo) Uo Uo Uo Uo e;exact gG d (r.mono Uo) f.args h
 rename_i F;split at h
 ·rename_i t
  rw[KY Uo,KX t]at hr;cases hd:headT x with
  |mk n ks=>
   rw[hd]at h hr c t;simp only[Tr.n]at h hr t;obtain⟨L,M,_⟩:=c.var_lt t;have E:=oe L M;obtain⟨v,H⟩:=Option.isSome_iff_exists.1 hr;rw[H]at h;have O:=(I _ _ E).2 v H;have:=O.lift d Uo (b:=n.a+1) Uo Uo;exact gG d (this.mono Uo) f.args h
 rename_i t;split at h
 ·rename_i W
  obtain⟨i,e,ty,bo,a0,hi,P,q⟩:=T.dfn c.node' W;rw[P,q.body,jJ q.fb.ok]at h;exact gG d ((q.fb.wk λm hm=>mZ (Nat.le_of_lt (aM hi)) hm).mono Uo) f.args h
 rename_i W;rw[KY Uo,KY t]at hr;split at h
 ·rename_i A
  rw[KX A]at hr;obtain⟨j,D,a1,a2⟩:=hH c.ok A;have r:=c.kidN 1 (by rw[j];omega) (b:=0) (by simp[kb,bh,A]);obtain⟨f1,f2,f3,f4,f5⟩:=EL T r hr;have S:=c.kidN (2+(headT (kidD (headT x) 1)).n.b.toNat) (by rw[j];omega) (b:=0) (by simp[kb,bh,A]);refine gG d (S.mono Uo) (λy o=>?_) h;rcases List.mem_append.1 o with o|o
  ·exact(r.args y (List.mem_of_mem_drop o)).mono Uo
  ·exact f.args y o
 ·rename_i A
  rw[KY A]at hr;split at hr
  ·rename_i g6
   cases e:lN (headT x)with
   |error V=>rw[e]at h;cases h
   |ok u=>
    rw[e]at h;exact gG d (zB d c g6 Uo Uo e) f.args h
  ·cases hr
end
theorem uX{α:Type}:∀{l:List α},l.length=2 ->∃a b,l=[a,b]
 |[a,b],_=>⟨a,b,rfl⟩
theorem EM{α:Type}:∀{l:List α},l.length=3 ->∃a b c,l=[a,b,c]
 |[a,b,c],_=>⟨a,b,c,rfl⟩
theorem TmsV.vals{C:Mem}{ys:List Tr}{v:Value}(h:TmsV C ys v):∃a c vs,v= .slice a ys.length c/\ys.length<=c/\Sl rVal C a vs/\uJ C vs ys:=by
 obtain⟨a,c,b,d,e⟩:=h;obtain⟨vs,f,i⟩:=Kg d;exact⟨a,c,vs,b,e,f,i⟩
def len(x:Tr):Int:=((row x).length:Int)
abbrev Rc:=Tr ->Int ->Nat ->Except Int (Tr×Nat)
def jl(rc:Rc)(x:Tr)(room:Int)(n:Nat):Except Int (Tr×Nat):=match cE x with
 |none=>.ok (x,n)
 |some p=>match rc p (room-len x+len p) n with
  | .error e=>.error e
  | .ok q=>.ok (bN x q.1,q.2)
def jm(B:ak)(cx:Ctx)(rc:Rc)(room:Int)(q:Tr×Nat):Except Int (Tr×Nat):=
 if cD B cx q.1=true then
  (if q.2=0 then .error 10 else match hY B cx q.1 with
   | .error e=>.error e
   | .ok z=>if room<len z then .error 9 else rc z room (q.2-1))
 else .ok q
def cz(B:ak)(cx:Ctx):Nat ->Rc
 |0,_,_,_=>.error 10
 |g+1,x,room,n=>match jl (cz B cx g) x room n with
  | .error e=>.error e
  | .ok q=>jm B cx (cz B cx g) room q
section
variable{B:ak}{cx:Ctx}
mutual
theorem qr(c:GoodB B)(a:CxOk B cx)(d:cx.length<=90000):∀(g:Nat) (x:Tr) (room:Int) (n:Nat) (z:Tr) (b:Nat),Ft (QB B) (cx.length:Int) x ->len x<=room ->room<=4096 ->cz B cx g x room n= .ok (z,b) ->Ft (QB B) (cx.length:Int) z/\len z<=room/\b<=n
 |0,x,room,n,z,b,_,_,_,h=>by cases h
 |g+1,x,room,n,z,b,o,hl,hr,h=>by
  have key:∀(q:Tr×Nat),Ft (QB B) (cx.length:Int) q.1 ->len q.1<=room ->q.2<=n ->jm B cx (cz B cx g) room q= .ok (z,b) ->Ft (QB B) (cx.length:Int) z/\len z<=room/\b<=n:=by
   intro q m f i h;unfold jm at h;split at h
   ·rename_i j
    split at h
    ·cases h
    ·cases k:hY B cx q.1 with
     |error e=>rw[k]at h;cases h
     |ok y=>
      rw[k]at h;simp only at h;split at h
      ·cases h
      ·rename_i u
       have:=qr c a d g y room (q.2-1) z b (uW c a d m j k) Uo hr h;exact⟨this.1,this.2.1,Uo⟩
   ·injection h with h
    subst h;exact⟨m,f,i⟩
  simp only[cz]at h;cases l:jl (cz B cx g) x room n with
  |error e=>rw[l]at h;cases h
  |ok q=>
   rw[l]at h;obtain⟨r,s,t⟩:=K3 c a d g o hl hr l;exact key q r s t h
theorem K3(k:GoodB B)(c:CxOk B cx)(l:cx.length<=90000)(g:Nat){x:Tr}{room:Int}{n:Nat}{q:Tr×Nat}(b:Ft (QB B) (cx.length:Int) x)(hl:len x<=room)(hr:room<=4096)(h:jl (cz B cx g) x room n= .ok q):Ft (QB B) (cx.length:Int) q.1/\len q.1<=room/\q.2<=n:=by
 unfold jl at h;cases a:cE x with
 |none=>
  rw[a]at h;injection h with h
  subst h;exact⟨b,hl,KJ _⟩
 |some p=>
  rw[a]at h;simp only at h;obtain⟨d,m⟩:=kQ b a;cases f:cz B cx g p (room-len x+len p) n with
  |error e=>rw[f]at h;cases h
  |ok o=>
   rw[f]at h;injection h with h
   subst h;obtain⟨q1,r⟩:=o;have i:len p<=room-len x+len p:=Uo
   obtain⟨s,v,t⟩:=qr k c l g p _ n q1 r d i (by unfold len at *;omega) f;have u:=sB (p:=q1) b a;have j:=(zD (C:=λ_ _ _=>True) (qk B) b s a (by unfold len at *;omega)).1;exact⟨j,by unfold len at *;simp only;omega,t⟩
end
end
def ndP(x:Nd):List PV:=[.int .i64 x.op,.int .i64 x.a,.int .i64 x.b]
def ah(l:List Nd):PV:=.sl (l.map ndP)
def bD(ls:List (List Nd)):PV:=.sl (ls.map λt=>[ah t])
def eZ(x:be):List PV:=[.int .i64 x.low,.int .i64 x.add,.int .i64 x.high]
def iU(x:Int×Int):List PV:=[.int .i64 x.1,.int .i64 x.2]
def cd(c:gZ):List PV:=[bD c.args,bD c.out]
def cj(x:bY):List PV:=[.int .i64 x.kind,ah x.sort,bD x.params,bD x.indices,.sl (x.ctors.map cd),ah x.type,ah x.body]
def jK(B:ak):List PV:=[.int .i64 B.vars,.sl (B.orders.map eZ),.sl (B.ents.map cj),.int .i64 B.nat,.sl (B.prims.map iU)]
def bw(B:ak):PV:=.agg (jK B)
def bdP(x:List Nd×List Nd):List PV:=[ah x.1,ah x.2]
def aH(c:List (List Nd×List Nd)):PV:=.sl (c.map bdP)
theorem iz{C:Mem}:cZ C [] []:=⟨rfl,λi x v a=>by simp at a⟩
theorem bL{C:Mem}{p:PV}{v:Value}{ps:List PV}{vs:List Value}(h:RV C p v)(h2:cZ C ps vs):cZ C (p::ps) (v::vs):=⟨KG (· +1) h2.1,λi x u a b=>by
 cases i with
 |zero=>obtain rfl:=JB a;obtain rfl:=JB b;exact h
 |succ i=>exact h2.2 i x u a b⟩
theorem pe{C:Mem}{ps:List PV}{vs:List Value}(h:cZ C ps vs):RV C (.agg ps) (.agg vs.toArray):=.agg _ _ h.1 h.2
def lO{α:Type}(R:Rd α)(p:α ->List PV):Prop:=∀C cs x,R.den C cs x ->cs.length=(p x).length/\∀(i:Nat) y u,(p x)[i]?=some y ->cs[i]?=some u ->RV C y u
theorem SV.rv{α:Type}{R:Rd α}{p:α ->List PV}(he:lO R p){C:Mem}{l:List α}{v:Value}(h:SV R C l v):RV C (.sl (l.map p)) v:=by
 obtain⟨a,c,rfl,A,D⟩:=h;rcases A.2 with E|⟨b,o,rfl,F⟩
 ·have:l=[]:=List.length_eq_zero_iff.1 E
  subst this;exact .nil a c
 ·have q:∀i:Nat,∃f:Nat ->Value,∀x,l[i]?=some x ->(p x).length=R.sz/\∀(j:Nat) y,(p x)[j]?=some y ->C b (o+i*R.sz+j) (f j)/\RV C y (f j):=λi=>by
   cases d:l[i]? with
   |none=>exact⟨λ_=>undef,λx h=>by cases h⟩
   |some x=>
    obtain⟨m,u,H⟩:=F i x d;obtain⟨L,I⟩:=he C m x u;have M:=R.len u;refine⟨λj=>m.getD j undef,λz k=>?_⟩;obtain rfl:=JB k;refine⟨Uo,λj y n=>?_⟩;have O:=aM n;have r:m[j]?=some m[j]:=gE;have e:m.getD j undef=m[j]:=by simp[QK,r]
    show C b (o+i*R.sz+j) (m.getD j undef)/\RV C y (m.getD j undef);rw[e];exact⟨H j _ r,I j y _ n r⟩
  obtain⟨f,s⟩:=Classical.axiomOfChoice q;have t:∀(i:Nat) x,(l.map p)[i]?=some x ->∃z,l[i]?=some z/\x=p z:=λi x d=>by
   rw[JX]at d;cases k:l[i]? with
   |none=>rw[k]at d;cases d
   |some z=>rw[k]at d;exact⟨z,rfl,(JB d).symm⟩
  have:=RV.sl (C:=C) (l.map p) R.sz b o c f (λx d=>by
   obtain⟨i,K⟩:=JH d;obtain⟨z,k,rfl⟩:=t i x K;exact(s i z k).1) (by simpa using D) (λi j x y d n=>by
   obtain⟨z,k,rfl⟩:=t i x d;exact((s i z k).2 j y n).1) λi j x y d n=>by
   obtain⟨z,k,rfl⟩:=t i x d;exact((s i z k).2 j y n).2
  rwa [KF]at this
theorem uY{α:Type}{R:Rd α}{p:α ->List PV}(he:lO R p):lO (iv R) λl=>[.sl (l.map p)]:=λC f x ⟨a,b,e,c,d⟩=>e▸bL (SV.rv he ⟨a,b,rfl,d,c⟩) iz
theorem ft':lO rNd ndP:=λC a x ⟨e,_⟩=>e▸bL (.int _ _) (bL (.int _ _) (bL (.int _ _) iz))
theorem Em':lO rOr eZ:=λC a x ⟨e,_⟩=>e▸bL (.int _ _) (bL (.int _ _) (bL (.int _ _) iz))
theorem En':lO rPr iU:=λC a x ⟨e,_⟩=>e▸bL (.int _ _) (bL (.int _ _) iz)
theorem Eo':lO rCt cd:=λC c x ⟨v,u,e,a,b⟩=>e▸bL (a.rv (uY ft')) (bL (b.rv (uY ft')) iz)
theorem Ep':lO rEn cj:=λC i x ⟨j,k,l,m,n,o,e,q,a,b,c,d,f,h⟩=>e▸bL (.int _ _) (bL (a.rv ft') (bL (b.rv (uY ft')) (bL (c.rv (uY ft')) (bL (d.rv Eo') (bL (f.rv ft') (bL (h.rv ft') iz))))))
theorem Eq':lO rBd bdP:=λC c x ⟨v,u,e,a,b⟩=>e▸bL (a.rv ft') (bL (b.rv ft') iz)
def j9(l:List (List Nd)):Prop:=l.length<=1000000/\∀t∈l,t.length<=1000000
structure sC(x:bY):Prop where
 s:x.sort.length<=1000000
 t:x.type.length<=1000000
 b:x.body.length<=1000000
 p:j9 x.params
 i:j9 x.indices
 c:x.ctors.length<=1000000
 a:∀c∈x.ctors,j9 c.args/\j9 c.out
structure dG(B:ak):Prop where
 o:B.orders.length<=1000000
 p:B.prims.length<=1000000
 e:B.ents.length<=1000000
 x:∀x∈B.ents,sC x
def GL{α:Type}(g:α ->Prop)(l:List α):Prop:=l.length<=1099511627776/\∀x∈l,g x
structure Br2{α:Type}(R:Rd α)(p:α ->List PV)(g:α ->Prop):Prop where
 sz:∀x,(p x).length=R.sz
 bme:∀x,g x ->∀C cs,cs.length=(p x).length ->(∀(i:Nat) y u,(p x)[i]?=some y ->cs[i]?=some u ->RV C y u) ->R.den C cs x
 good:∀C cs x,R.den C cs x ->g x
section
variable{α:Type}{R:Rd α}{p:α ->List PV}{g:α ->Prop}(hb:Br2 R p g)
include hb
theorem Br2.sl{C:Mem}{l:List α}{v:Value}(n:GL g l)(h:RV C (.sl (l.map p)) v):SV R C l v:=by
 obtain⟨k,n⟩:=n
 generalize t:l.map p=L at h
 cases h with
 |nil a c=>
  obtain rfl:l=[]:=List.map_eq_nil_iff.1 t;exact⟨a,c,rfl,⟨KV _,.inl rfl⟩,KV _⟩
 |sl _ E b o c f q z e r=>
  subst t;rw[KF]at z ⊢;refine⟨_,c,rfl,⟨k,.inr ⟨b,o,rfl,λi x A=>?_⟩⟩,z⟩;have s:(l.map p)[i]?=some (p x):=by rw[JX,A];rfl
  have F:=q (p x) (JQ s);have H:=hb.sz x;refine⟨(List.range (p x).length).map (f i),hb.bme x (n x (JQ A)) C _ Ud (λj y u D d=>?_),λj u d=>?_⟩
  ·rw[JX]at d
   have m:=aM D;rw[List.getElem?_range m]at d;obtain rfl:=JB d;exact r i j _ y s D
  ·rw[JX]at d
   have m:j<(p x).length:=by
    have:=aM (l:=((List.range (p x).length).map (f i))) (by rw[JX];exact d)
    simpa using this
   rw[List.getElem?_range m]at d;obtain rfl:=JB d;have:=e i j _ (p x)[j] s (List.getElem?_eq_getElem m);rw[show R.sz=E by omega];exact this
theorem Br2.gl{C:Mem}{l:List α}{v:Value}(h:SV R C l v):GL g l:=by
 obtain⟨a,c,_,⟨e,f⟩,_⟩:=h;refine⟨e,λx j=>?_⟩;obtain⟨i,d⟩:=JH j;have:=aM d;obtain⟨b,o,_,k⟩:=f.resolve_left Uo;obtain⟨n,m,_⟩:=k i x d;exact hb.good _ _ _ m
theorem Br2.sk:Br2 (iv R) (λl=>[.sl (l.map p)]) (GL g):=⟨λ_=>rfl,λx d C b f h=>by
 match b,f with
 |[v],_=>
  obtain⟨i,j,rfl,k,m⟩:=hb.sl d (h 0 _ v rfl rfl);exact⟨i,j,rfl,m,k⟩,λC b x ⟨a,c,e,n,o⟩=>hb.gl (v:=.slice a x.length c) ⟨a,c,rfl,o,n⟩⟩
end
theorem gH{C:Mem}{n:Int}{v:Value}(h:RV C (.int .i64 n) v):v= .int .i64 n:=by cases h;rfl
theorem br_nd:Br2 rNd ndP (λx=>I64 x.op/\I64 x.a/\I64 x.b):=⟨λ_=>rfl,λx d C e f h=>by
 match e,f with
 |[a,b,c],_=>exact⟨by rw[gH (h 0 _ a rfl rfl),gH (h 1 _ b rfl rfl),gH (h 2 _ c rfl rfl)],d⟩,λ_ _ _ h=>h.2⟩
theorem br_or:Br2 rOr eZ (λx=>I64 x.low/\I64 x.add/\I64 x.high):=⟨λ_=>rfl,λx d C e f h=>by
 match e,f with
 |[a,b,c],_=>exact⟨by rw[gH (h 0 _ a rfl rfl),gH (h 1 _ b rfl rfl),gH (h 2 _ c rfl rfl)],d⟩,λ_ _ _ h=>h.2⟩
theorem br_pr:Br2 rPr iU (λx=>I64 x.1/\I64 x.2):=⟨λ_=>rfl,λx c C d e h=>by
 match d,e with
 |[a,b],_=>exact⟨by rw[gH (h 0 _ a rfl rfl),gH (h 1 _ b rfl rfl)],c⟩,λ_ _ _ h=>h.2⟩
abbrev ka(x:Nd):Prop:=I64 x.op/\I64 x.a/\I64 x.b
abbrev zE(x:gZ):Prop:=GL (GL ka) x.args/\GL (GL ka) x.out
theorem br_ct:Br2 rCt cd zE:=⟨λ_=>rfl,λx c C d e h=>by
 match d,e with
 |[a,b],_=>exact⟨a,b,rfl,br_nd.sk.sl c.1 (h 0 _ a rfl rfl),br_nd.sk.sl c.2 (h 1 _ b rfl rfl)⟩,λ_ _ _ ⟨_,_,_,f,i⟩=>⟨br_nd.sk.gl f,br_nd.sk.gl i⟩⟩
abbrev zF(x:bY):Prop:=I64 x.kind/\GL ka x.sort/\GL (GL ka) x.params/\GL (GL ka) x.indices/\GL zE x.ctors/\GL ka x.type/\GL ka x.body
theorem br_en:Br2 rEn cj zF:=⟨λ_=>rfl,λx ⟨i,j,k,l,m,n,o⟩ C q r h=>by
 match q,r with
 |[a,b,c,d,e,f,g],_=>
  exact⟨b,c,d,e,f,g,by rw[gH (h 0 _ a rfl rfl)],i,br_nd.sl j (h 1 _ b rfl rfl),br_nd.sk.sl k (h 2 _ c rfl rfl),br_nd.sk.sl l (h 3 _ d rfl rfl),br_ct.sl m (h 4 _ e rfl rfl),br_nd.sl n (h 5 _ f rfl rfl),br_nd.sl o (h 6 _ g rfl rfl)⟩,λ_ _ _ ⟨_,_,_,_,_,_,_,i,j,k,l,m,n,o⟩=>⟨i,br_nd.gl j,br_nd.sk.gl k,br_nd.sk.gl l,br_ct.gl m,br_nd.gl n,br_nd.gl o⟩⟩
theorem br_bd:Br2 rBd bdP (λx=>GL ka x.1/\GL ka x.2):=⟨λ_=>rfl,λx c C d e h=>by
 match d,e with
 |[a,b],_=>exact⟨a,b,rfl,br_nd.sl c.1 (h 0 _ a rfl rfl),br_nd.sl c.2 (h 1 _ b rfl rfl)⟩,λ_ _ _ ⟨_,_,_,f,i⟩=>⟨br_nd.gl f,br_nd.gl i⟩⟩
def BoI(B:ak):Prop:=GL (λx:be=>I64 x.low/\I64 x.add/\I64 x.high) B.orders/\GL zF B.ents/\GL (λx:Int×Int=>I64 x.1/\I64 x.2) B.prims
theorem BoV.boi{C:Mem}{B:ak}{v:Value}(h:BoV C B v):BoI B:=by
 obtain⟨_,_,_,_,a,b,c⟩:=h;exact⟨br_or.gl a,br_en.gl b,br_pr.gl c⟩
theorem EN{n:Nd}(h:aG n=true):I64 n.op/\I64 n.a/\I64 n.b:=by
 have hb:=dn h;have a:0<=n.op/\n.op<=13:=by
  simp only[aG]at h
  repeat' split at h
  all_goals first|omega|contradiction
 exact⟨⟨Uo,Uo⟩,⟨Uo,Uo⟩,⟨Uo,Uo⟩⟩
mutual
theorem ze':∀(x:Tr) (s:Md),Ok s x ->∀m∈row x,aG m=true
 | .mk n ks,s,h,m,hm=>by
  obtain⟨h1,h2,h3⟩:=h.kids;rcases List.mem_cons.1 (show m∈n::rows ks from hm)with rfl|hm
  ·cases s<;>simp only[cnt]at h1<;>split at h1<;>simp_all
  ·exact ue' ks n s 0 h2 h3 m hm
theorem ue':∀(ks:List Tr) (n:Nd) (s:Md) (j:Nat),bC cnt nx ks n s j ->fc' ks=true ->∀m∈rows ks,aG m=true
 |[],_,_,_,_,_,m,hm=>by simp[rows]at hm
 |x::r,n,s,j,h,hi,m,hm=>by
  have h1:=h.1;simp only[fc',Bool.and_eq_true]at hi;rcases List.mem_append.1 (show m∈row x++rows r from hm)with hm|hm
  ·exact ze' x _ ⟨h1,hi.1⟩ m hm
  ·exact ue' r n s _ h.2 hi.2 m hm
end
theorem K4{x:Tr}(a:Ok .tm x)(hl:(row x).length<=4096):GL ka (row x):=⟨Uo,λm b=>EN (ze' x _ a m b)⟩
theorem K5{C:Mem}{ys:List Tr}{v:Value}(b:∀y∈ys,Ok .tm y/\(row y).length<=4096)(hl:ys.length<=1000000)(h:RV C (bD (ys.map row)) v):TmsV C ys v:=TmsV.sv.2 (br_nd.sk.sl ⟨by rw[KF];omega,λl hl=>by
 obtain⟨y,a,rfl⟩:=List.mem_map.1 hl;exact K4 (b y a).1 (b y a).2⟩ h)
theorem K6{C:Mem}{w w':World}(a:Sub C w)(k:Kp [] w w'):rB C w (Cn C w w') w':=⟨Cn.sub a k,λ_ _ _ h=>.inl h,λb o v h=>h.imp (λq=>⟨_,_,q⟩) λq=>q.1,k⟩
theorem K7{P:Program}{f:FuncId}{ps:List PV}{r:PV}(a:dM P f)(h:∀(w:World) (C:Mem) (vs:List Value),Sub C w ->(∀b o v,C b o v ->b<w.heap.size) ->cZ C ps vs ->Calls P f vs.toArray w λe w'=>(∃v,e= .returned v/\RV (Cn C w w') r v)/\Kp [] w w'):VC P f ps r:=.of ⟨a,λw C vs c d=>(h w C vs c (λb o v h=>(c b o v h).lt) d).mono λe w' ⟨⟨v,i,j⟩,k⟩=>⟨v,_,i,j,K6 c k⟩⟩
theorem EO{C:Mem}{p:PV}{vs:List Value}(h:cZ C [p] vs):∃v,vs=[v]/\RV C p v:=by
 obtain⟨a,b⟩:=h
 match vs,a with
 |[v],_=>exact⟨v,rfl,b 0 _ v rfl rfl⟩
theorem uZ{C:Mem}{p q:PV}{vs:List Value}(h:cZ C [p,q] vs):∃v u,vs=[v,u]/\RV C p v/\RV C q u:=by
 obtain⟨b,a⟩:=h
 match vs,b with
 |[v,u],_=>exact⟨v,u,rfl,a 0 _ v rfl rfl,a 1 _ u rfl rfl⟩
theorem K8{C:Mem}{p q:PV}{v u:Value}(h1:RV C p v)(h2:RV C q u):RV C (.tup [p,q]) (.tuple #[v,u]):=.tup _ [v,u] rfl λi y z a b=>by
 match i,a,b with
 |0,a,b=>obtain rfl:=JB a;obtain rfl:=JB b;exact h1
 |1,a,b=>obtain rfl:=JB a;obtain rfl:=JB b;exact h2
mutual
def trP:Tr ->List PV
 | .mk n ks=>[.int .i64 n.op,.int .i64 n.a,.int .i64 n.b,.sl (if n.op=2 then []else if n.op=12 then trF ks else trL ks),.sl (if n.op=2 then ks.map λy=>ndP y.n else []),.sl (if n.op=12 then ks.map λy=>ndP y.n else [])]
def trL:List Tr ->List (List PV)
 |[]=>[]
 |x::r=>trP x::trL r
def trF:List Tr ->List (List PV)
 |[]=>[]
 | .mk _ ks::r=>trL ks++trF r
end
theorem uf':∀l:List Tr,trL l=l.map trP
 |[]=>by simp[trL]
 |x::r=>by simp[trL,uf' r]
theorem zg':∀l:List Tr,trF l=(l.flatMap (·.ks)).map trP
 |[]=>by simp[trF]
 | .mk n ks::r=>by simp[trF,zg' r,uf',Tr.ks]
def atmsT(x:Tr):List Nd:=if x.n.op=2 then x.ks.map (·.n)else []
def funsT(x:Tr):List Nd:=if x.n.op=12 then x.ks.map (·.n)else []
def fL(n:Nd)(K A F:List (List PV)):List PV:=[.int .i64 n.op,.int .i64 n.a,.int .i64 n.b,.sl K,.sl A,.sl F]
theorem kR(x:Tr):trP x=fL x.n ((kidsT x).map trP) ((atmsT x).map ndP) ((funsT x).map ndP):=by
 obtain⟨n,c⟩:=x;simp only[trP,fL,Tr.n,kidsT,atmsT,funsT,uf',zg',Tr.ks]
 by_cases b:n.op=2
 ·simp[b]
 ·by_cases a:n.op=12
  ·simp[a]
  ·simp[b,a]
def fc(x:Tr):List PV:=fL x.n ((kidsT x).map trP) ((atmsT x).map ndP) ((funsT x).map ndP)
def bE(x:Tr):PV:=.agg (fc x)
def oh(l:List Tr):PV:=.sl (l.map trP)
theorem vd(n lo hi:Int):VC prog 203 [.int .i64 n,.int .i64 lo,.int .i64 hi] (.bool (aX n lo hi)):=by
 refine sf 15 [.tmp 6] τok func203 rfl rfl rfl (QX rfl) UO<|af (λg=>?_) (λg=>?_)
 ·refine xJ ?_
  exact aE (h3:=by rw[aX,KU g];rfl)
 ·exact aE (h3:=by rw[aX,KH g];rfl)
def cA(n:Nd):Int:=if n.op=4 \/n.op=5 \/n.op=6 then 2 else if n.op=7 then 3 else if n.op=11 then IntKind.i64.wrap (2+n.b)else if n.op=12 then IntKind.i64.wrap (2*n.b)else 0
def gu(n:Nd):Bool:=aG n && (decide (n.op≠3) && decide (n.op≠13))
theorem EP{a x y:Int}(op:Int){p q:Bool}(b:(decide (a=0)||decide (a=1))=aX a 0 1)(h1:x=y:=by simp[cA, *])(h2:p=q:=by first|(simp[gu,aG, *];done)|(simp[gu,aG, *];omega)|(simp_all [gu,aG];done)|(simp_all [gu,aG,aX];done)|(by_cases h3:op=3<;>by_cases c:op=13<;>simp_all [gu,aG])):ge' [(PV.int .i64 x).nz,(PV.bool p).nz]= .tup [.int .i64 y,.bool q]:=by rw[h1,h2];rfl
theorem K9(op a b:Int):VC prog 202 [.agg [.int .i64 op,.int .i64 a,.int .i64 b]] (.tup [.int .i64 (cA ⟨op,a,b⟩),.bool (gu ⟨op,a,b⟩)]):=by
 have d:(decide (a=0)||decide (a=1))=aX a 0 1:=by rw[Bool.eq_iff_iff];simp[aX];omega
 refine uC 93 [.tmp 2,.tmp 3] τok func202 rfl rfl rfl (QX rfl) UO<|JL τok (σ:=Bool) (λz=>⟨[(1,.c (.ptr 1 0)),(4,.c (.p (.bool z)))],[(1,.st 0 46 [.p (.int .i64 op),.p (.int .i64 a),.p (.int .i64 b)])]⟩) (λz=>z=(decide (a=0) && decide (b=0))) ?_ ?_
 ·refine af (λe=>?_) (λe=>?_)
  ·refine xJ ?_
   exact⟨_,id,by rw[KU e];rfl,iu ⟨rfl,rfl,trivial⟩ ⟨rfl,trivial⟩ rfl⟩
  ·exact⟨_,id,by rw[KH e];rfl,iu ⟨rfl,rfl,trivial⟩ ⟨rfl,trivial⟩ rfl⟩
 rintro z f;refine aj ?_
 repeat' first
  |exact⟨_,_,rfl,rfl,EP op d⟩
  |exact qa UD ⟨_,_,rfl,rfl,EP op d⟩
  |refine af (λh=>?_) (λh=>?_)
  |refine bV (vd _ _ _) (λq=>have i:=dE.1 q;?_) (λq=>?_)
  |refine gC Uo Uo ?_
  |refine JI ?_
theorem zG(n:Nd):VC prog 202 [.agg (ndP n)] (.tup [.int .i64 (cA n),.bool (gu n)]):=K9 n.op n.a n.b
theorem qs(op a b:Int)(k:Nat)(o:k<=1000000):VC prog 165 [.agg [.int .i64 op,.int .i64 a,.int .i64 b],.int .i64 k] (.int .i64 (kb ⟨op,a,b⟩ k)):=by
 refine sf 36 [.tmp 4] τok func165 rfl rfl rfl (QX rfl) UO ?_;have fin:∀{x y:Int},x=y ->PV.int .i64 x=PV.int .i64 y:=λh=>by rw[h]
 have f12:∀{r:Int},op=12 ->(k:Int)%2=1 ->kb ⟨op,a,b⟩ k=b:=λd f=>by
  have:k%2=1:=Uo
  simp[kb,d,this]
 have i:op=12 ->¬ (k:Int)%2=1 ->kb ⟨op,a,b⟩ k=0:=λd f=>by
  have:¬ k%2=1:=Uo
  simp[kb,d,this]
 have f0:op≠12 ->¬ (((op=4 \/op=5)/\(k:Int)=1) \/(op=7/\(k:Int)=2)) ->kb ⟨op,a,b⟩ k=0:=λd f=>by simp only[kb,bh];rw[KY d,KY f]
 have f1:(((op=4 \/op=5)/\(k:Int)=1) \/(op=7/\(k:Int)=2)) ->kb ⟨op,a,b⟩ k=1:=λf=>by
  have d:op≠12:=Uo
  simp only[kb,bh];rw[KY d,KX f]
 refine af (λl=>?_) (λl=>?_)
 ·refine af (λc=>?_) (λc=>?_)
  ·exact⟨_,_,rfl,rfl,fin (f1 Uo).symm⟩
  ·refine mE Uo (mE Uo ⟨_,_,rfl,rfl,fin (f0 Uo Uo).symm⟩)
 ·refine af (λm=>?_) (λm=>?_)
  ·refine af (λc=>?_) (λc=>?_)
   ·exact⟨_,_,rfl,rfl,fin (f1 Uo).symm⟩
   ·refine mE Uo (mE Uo ⟨_,_,rfl,rfl,fin (f0 Uo Uo).symm⟩)
  ·refine af (λn=>?_) (λn=>?_)
   ·refine af (λc=>?_) (λc=>?_)
    ·exact⟨_,_,rfl,rfl,fin (f1 Uo).symm⟩
    ·refine mE Uo ⟨_,_,rfl,rfl,fin (f0 Uo Uo).symm⟩
   ·refine af (λe=>?_) (λe=>?_)
    ·refine pT Uo Uo Uo ?_
     refine af (λj=>?_) (λj=>?_)
     ·exact⟨_,_,rfl,rfl,fin (f12 (r:=0) e j).symm⟩
     ·exact⟨_,_,rfl,rfl,fin (i e j).symm⟩
    ·exact⟨_,_,rfl,rfl,fin (f0 Uo Uo).symm⟩
theorem La(n:Nd)(k:Nat)(a:k<=1000000):VC prog 165 [.agg (ndP n),.int .i64 k] (.int .i64 (kb n k)):=qs n.op n.a n.b k a
def sw(a b k:Nat):Nat:=match Nat.beq k a with
 |true=>b
 |false=>k
def cB(op:Int)(F:List Nd):Nat ->List Tr ->List Nd
 |_,[]=>[]
 |i,k::r=>(if op=12/\i%2=0 then (F[i/2]?).toList else [])++(row k++cB op F (i+1) r)
theorem zH{op:Int}(h:op≠12)(F:List Nd):∀(l:List Tr) (i:Nat),cB op F i l=rows l
 |[],_=>rfl
 |k::r,i=>by simp[cB,h,rows,zH h F r (i+1)]
theorem EQ{op:Int}(h:op=12):∀(ks:List Tr) (p:List Nd),(∀k∈ks,k.ks.length=2) ->cB op (p++ks.map (·.n)) (2*p.length) (ks.flatMap (·.ks))=rows ks
 |[],p,_=>rfl
 | .mk n e::r,p,f=>by
  have h2:=f (.mk n e) Ud;simp only[Tr.ks]at h2
  match e,h2 with
  |[a,b],_=>
   have c:=EQ h r (p++[n]) λk d=>f k (by simp[d]);simp only[JK,JV,JU,List.append_assoc,List.cons_append,List.nil_append]at c;have i:(2*p.length+1)%2=1:=Uo
   have j:2*p.length/2=p.length:=Uo
   have l:2*(p.length+(0+1))=2*p.length+1+1:=Uo
   rw[l]at c;simp[cB,Tr.ks,Tr.n,h,i,j,rows,row,<- c]
theorem jL{x:Tr}(l:Ok .tm x):row x=x.n::(atmsT x++cB x.n.op (funsT x) 0 (kidsT x)):=by
 obtain⟨n,a⟩:=x;obtain⟨⟨o,j⟩,d⟩:=l;simp only[Tr.n,atmsT,funsT,kidsT,Tr.ks,row]
 by_cases f:n.op=2
 ·simp only[f,if_true,KY (show ¬ (2:Int)=12 by decide)]
  simp only[cB,JD]
  congr 1
  have:∀y∈a,y.ks=[]:=λy e=>by
   obtain⟨i,d⟩:=JH e;have:=jF a 0 i y j d;obtain⟨m,h⟩:=y;have k:nx .tm n (0+i)= .am:=by simp[nx,f]
   rw[k]at this;have b:=this.1;simp only[cnt]at b;split at b
   ·injection b with b
    exact List.length_eq_zero_iff.1 b.symm
   ·cases b
  clear o j d
  induction a with
  |nil=>rfl
  |cons y r q=>
   obtain⟨m,h⟩:=y;have b:h=[]:=this (.mk m h) Ud;subst b;simp[rows,row,Tr.n,q λy e=>this y (by simp[e])]
 ·by_cases c:n.op=12
  ·simp only[c,if_true,KY (show ¬ (12:Int)=2 by decide),List.nil_append]
   have:∀y∈a,y.ks.length=2:=λy e=>by
    obtain⟨i,d⟩:=JH e;have:=jF a 0 i y j d;obtain⟨m,h⟩:=y;have k:nx .tm n (0+i)= .fn:=by simp[nx,c]
    rw[k]at this;have b:=this.1;simp only[cnt]at b;split at b
    ·injection b with b
     exact b.symm
    ·cases b
   have:=EQ (op:=12) rfl a [] this;simp only[List.nil_append,JU,Nat.mul_zero]at this;exact KG (n:: ·) this.symm
  ·have s:atmsT (.mk n a)=[]:=KY f
   have t:cB n.op (funsT (.mk n a)) 0 a=rows a:=zH c _ a 0;have u:kidsT (.mk n a)=a:=by simp[kidsT,f,c]
   show n::rows a=n::(atmsT (.mk n a)++cB n.op (funsT (.mk n a)) 0 (kidsT (.mk n a)))
   rw[s,u,t]
   rfl
theorem Lb{x:Tr}(e:Ok .tm x){j:Nat}(a:x.n.op=12)(o:j<(kidsT x).length):∃f,(funsT x)[j/2]?=some f:=by
 have:(kidsT x).length=2*(funsT x).length:=by
  have q:=jL e;obtain⟨n,c⟩:=x;obtain⟨⟨s,h⟩,d⟩:=e;simp only[Tr.n]at a;have k:kidsT (.mk n c)=c.flatMap (·.ks):=by simp[kidsT,a]
  have l:funsT (.mk n c)=c.map (·.n):=KX a;rw[k,l,KF];have:∀y∈c,y.ks.length=2:=λy t=>by
   obtain⟨i,d⟩:=JH t;have:=jF c 0 i y h d;obtain⟨m,E⟩:=y;have u:nx .tm n (0+i)= .fn:=by simp[nx,a]
   rw[u]at this;have b:=this.1;simp only[cnt]at b;split at b
   ·injection b with b
    exact b.symm
   ·cases b
  clear o q s h d k l
  induction c with
  |nil=>rfl
  |cons y r v=>
   have b:=this y Ud;have A:=v λz D=>this z (by simp[D]);simp only[List.flatMap_cons,JK,JV,b,A];omega
 exact⟨_,gE⟩
theorem fM(l:List Nd):∀x∈l,(ndP x).length=3/\∀q∈ndP x,q.one=true:=λx _=>⟨rfl,λq a=>by
 simp only[ndP,JJ,JZ,or_false]at a;rcases a with rfl|rfl|rfl<;>rfl⟩
theorem ER(op:Int)(F:List Nd):∀(l:List Tr) (i j:Nat) (y:Tr),l[j]?=some y ->(row y).length<=(cB op F i l).length
 |x::r,i,0,y,h=>by
  obtain rfl:=JB h;simp only[cB,JK];omega
 |x::r,i,j+1,y,h=>by
  have:=ER op F r (i+1) j y h;simp only[cB,JK];omega
theorem fN{x:Tr}(a:Ok .tm x){j:Nat}{y:Tr}(h:(kidsT x)[j]?=some y):(row y).length<(row x).length:=by
 have:=ER x.n.op (funsT x) (kidsT x) 0 j y h;rw[jL a];simp only[JV,JK];omega
structure Wf(x:Tr):Prop where
 ok:Ok .tm x
 len:(row x).length<=4096
theorem Wf.ft{x:Tr}(h:Wf x):Ft (λ_=>True) 2000000 x:=by
 refine⟨h.ok,h.len,λq a=>?_,λ_ _=>VQ⟩;have b:=fr' x .tm 0 0 h.ok.1 Uo Uo Uo q a;omega
theorem Wf.kid{x:Tr}(h:Wf x){j:Nat}{y:Tr}(a:(kidsT x)[j]?=some y):Wf y:=by
 obtain⟨n,b⟩:=x;have:=h.ft.kid a;exact⟨this.ok,this.len⟩
theorem vt{l:List Tr}{i:Int}{k:Nat ->List PV ->Prop}(j:Nat){y:Tr}(a:l[j]?=some y)(b:k j (fc y))(hi:i=(j:Int):=by first|rfl|omega):kB (l.map trP) 6 i k:=
 oR j (fc y) hi (by rw[JX,a];exact KG some (kR y)) rfl b
theorem lP(N:Nat)(S:N<=1000000):∀x:Tr,Wf x ->(row x).length<=N ->VC prog 106 [bE x] (ah (row x)):=by
 induction N with
 |zero=>
  intro x _ h;have:=aZ x;omega
 |succ N M=>
  intro x o E;have v:=jL o.ok;have m:=λj y=>fN o.ok (j:=j) (y:=y);have n:=λj y=>o.kid (j:=j) (y:=y);have r:=o.len;have s:=iy o.ok;have z:∀j,x.n.op=12 ->j<(kidsT x).length ->∃f,(funsT x)[j/2]?=some f:=λj=>Lb o.ok;show VC _ _ [.agg (fL x.n _ _ _)] _
  revert v m n z r E s
  generalize row x=R,kidsT x=K,funsT x=F,atmsT x=At
  obtain⟨H,a,b⟩:=x.n;intro E v m n r s z;have t:=KG List.length v;simp only[JV,JK]at t;have T:=au trP K;refine vf 45 [.tmp 2] τok func106 ?_;refine va ?_ (fM At);refine aB τok (σ:=Nat×List Nd) [(1,_)] [(1,_)] (λq=>[(3,.c (.row 1000)),(4,vI q.1)]) (λq=>[(1000,.rw 46 3 (q.2.map ndP))]) (λq=>q.1<=K.length/\q.2++cB H F q.1 (K.drop q.1)=R) (λq=>K.length-q.1) (0,⟨H,a,b⟩::At) ⟨KV _,by simpa using v.symm⟩ ?_ (sw 1000 10);rintro⟨i,l⟩ ⟨O,d⟩;simp only at O d;refine aj<|af (λg=>?_) (λg=>?_)
  ·obtain⟨y,u,P⟩:=ay (l:=K) (k:=i)
   rw[P]at d;simp only[cB]at d;have A:=KG List.length d;simp only[JK]at A;have D:=M Uo y (n i y u) (by have:=m i y u;omega);refine af (λe=>?_) (λe=>?_)
   ·refine pT Uo Uo Uo ?_
    refine af (λI=>?_) (λI=>?_)
    ·obtain⟨f,L⟩:=z i e Uo
     rw[KX ⟨e,Uo⟩,L]at d;refine pT Uo Uo Uo<|vm (i/2) L ?_;refine bi ?_;refine vt i u ?_;refine ae D ?_;refine va ?_ (fM _);refine vi ?_;exact aw (i+1,l++[f]++row y) ⟨Us,by simpa using d⟩ (sw 1000 43)
    ·rw[KY λq=>I Uo]at d
     refine vt i u ?_;refine ae D ?_;refine va ?_ (fM _);refine vi ?_;exact aw (i+1,l++row y) ⟨Us,by simpa using d⟩ (sw 1000 43)
   ·rw[KY λq=>e q.1]at d
    refine vt i u ?_;refine ae D ?_;refine va ?_ (fM _);refine vi ?_;exact aw (i+1,l++row y) ⟨Us,by simpa using d⟩ (sw 1000 43)
  ·rw[JY Uo]at d
   simp only[cB,JD]at d;exact aE (h3:=by rw[<- d];rfl)
def kS(t:List Nd):Option (Tr×List Nd):=match parse cnt nx t.length .tm t with
 |some (x,r)=>if gQ' x=true then some (x,r)else none
 |none=>none
theorem zI{x:Tr}(a:Ok .tm x)(r:List Nd):kS (row x++r)=some (x,r):=by
 unfold kS;rw[fM' (cnt:=cnt) (nx:=nx) x _ .tm r Ud a.1];simp[a.2]
theorem zJ{t:List Nd}{x:Tr}{r:List Nd}(h:kS t=some (x,r)):t=row x++r/\Ok .tm x:=by
 unfold kS at h;split at h
 ·rename_i y q a
  split at h
  ·rename_i b
   obtain⟨rfl,rfl⟩:y=x/\q=r:=by simpa using h
   obtain⟨c,d⟩:=cY' _ _ _ _ _ a;exact⟨c,d,b⟩
  ·cases h
 ·cases h
theorem Lc{x y:Tr}{r s:List Nd}(b:Ok .tm x)(c:Ok .tm y)(h:row x++r=row y++s):x=y/\r=s:=by
 have a:=zI b r;rw[h,zI c s]at a;simp only[QZ,Prod.mk.injEq]at a;exact⟨a.1.symm,a.2.symm⟩
theorem ve{t:List Nd}{a:Nat}(ha:a<=t.length):endS t .tm a=(kS (t.drop a)).map λq=>t.length-q.2.length:=by
 unfold endS kS;rw[DG (cnt:=cnt) (nx:=nx) (s:=Md.tm) (f:=t.length) (g:=(t.drop a).length) Ud (KJ _)];cases parse cnt nx (t.drop a).length .tm (t.drop a)with
 |none=>rfl
 |some q=>
  obtain⟨x,r⟩:=q;simp only
  by_cases h:gQ' x=true
  ·simp[h]
  ·simp[h]
theorem ES{op:Int}:∀{K l:List Tr} {F b:List Nd} {i:Nat},K.length=l.length ->(∀k∈K,Ok .tm k) ->(∀k∈l,Ok .tm k) ->(op=12 ->∀j,i<=j ->j<i+K.length ->∃f m,F[j/2]?=some f/\b[j/2]?=some m) ->cB op F i K=cB op b i l ->K=l/\(op=12 ->∀j,i<=j ->j<i+K.length ->j%2=0 ->F[j/2]?=b[j/2]?)
 |[],[],F,b,i,_,_,_,_,_=>⟨rfl,λ_ j h1 h2=>by simp at h2;omega⟩
 |x::r,y::t,F,b,i,hl,n,d,o,h=>by
  simp only[cB]at h;have hr:(op=12/\i%2=0 ->F[i/2]?=b[i/2]?)/\row x++cB op F (i+1) r=row y++cB op b (i+1) t:=by
   by_cases c:op=12/\i%2=0
   ·obtain⟨f,m,h1,h2⟩:=o c.1 i (KJ _) Ud
    rw[KX c,KX c,h1,h2]at h;simp only[Option.toList,List.cons_append,List.nil_append,List.cons.injEq]at h;exact⟨λ_=>by rw[h1,h2,h.1],h.2⟩
   ·rw[KY c,KY c]at h
    exact⟨λq=>absurd q c,by simpa using h⟩
  obtain⟨rfl,u⟩:=Lc (n x Ud) (d y Ud) hr.2;obtain⟨rfl,v⟩:=ES (by simpa using hl) (λk h=>n k (by simp[h])) (λk h=>d k (by simp[h])) (λa j h1 h2=>o a j Uo Uk) u;refine⟨rfl,λa j h1 h2 s=>?_⟩
  by_cases e:j=i
  ·subst e
   exact hr.1 ⟨a,s⟩
  ·exact v a j Uo (by simp at h2;omega) s
theorem zK{op:Int}{F:List Nd}{y:Tr}:∀(K:List Tr) (i:Nat),cB op F i (K++[y])=cB op F i K++((if op=12/\(i+K.length)%2=0 then (F[(i+K.length)/2]?).toList else [])++row y)
 |[],i=>by simp[cB]
 |x::r,i=>by
  simp only[List.cons_append,cB,zK r (i+1),JV,List.append_assoc];rw[show i+1+r.length=i+(r.length+1) by omega]
theorem ET{op:Int}{F b:List Nd}:∀(K:List Tr) (i:Nat),(op=12 ->∀j,i<=j ->j<i+K.length ->j%2=0 ->F[j/2]?=b[j/2]?) ->cB op F i K=cB op b i K
 |[],i,_=>rfl
 |x::r,i,h=>by
  simp only[cB];rw[ET r (i+1) λa j h1 h2 h3=>h a j Uo Uk h3]
  by_cases hc:op=12/\i%2=0
  ·rw[KX hc,KX hc,h hc.1 i (KJ _) Ud hc.2]
  ·rw[KY hc,KY hc]
def iW(t:List Nd)(n:Nd)(i a:Nat):Option Nat:=
 if n.op=12 then (if i%2=0 then gW t .fn (n.b.toNat-i/2) a else (endS t .tm a).bind (gW t .fn (n.b.toNat-(i+1)/2)))
 else gW t .tm ((cA n).toNat-i) a
def z6P:PV:=.agg [pI 0,pI 0,pI 0,.sl [],.sl [],.sl []]
theorem EU{x:Tr}(u:Ok .tm x){j:Nat}{y:Tr}(d:(kidsT x)[j]?=some y):Ok .tm y:=by
 obtain⟨n,a⟩:=x;obtain⟨v,k,t⟩:=u.kids;obtain⟨H,I,z,A⟩:=fq v
 by_cases m:n.op=2
 ·simp[kidsT,m]at d
 ·by_cases b:n.op=12
  ·have e:kidsT (.mk n a)=a.flatMap (·.ks):=by simp[kidsT,b]
   rw[e]at d;have l:∀(i:Nat) f,a[i]?=some f ->Ok .fn f:=λi f l=>⟨by
    have:=jF a 0 i f k l
    rwa [show nx Md.tm n (0+i)= .fn by simp[nx,m,b]]at this,dK' a i f t l⟩
   obtain⟨f,o,c⟩:=xh' a (λf D=>by
    obtain⟨i,q⟩:=JH D;obtain⟨g,E,F,rfl,_⟩:=(l i f q).fn
    rfl) j y d
   obtain⟨g,E,F,rfl,_,_,r,s⟩:=(l _ f o).fn;simp only[Tr.ks]at c;rcases(show j%2=0 \/j%2=1 by omega)with h|h<;>rw[h]at c
   ·obtain rfl:=JB c;exact r
   ·obtain rfl:=JB c;exact s
  ·have e:kidsT (.mk n a)=a:=by simp[kidsT,m,b]
   rw[e]at d;have:=jF a 0 j y k d;rw[show nx Md.tm n (0+j)= .tm by simp[nx,m,b]]at this;exact⟨this,dK' a j y t d⟩
def ia(t:List Nd):PV:=match kS t with
 |some (x,r)=>.tup [bE x,pI ((t.length-r.length:Nat):Int),.bool true]
 |none=>.tup [z6P,pI 0,.bool false]
theorem zL{t:List Nd}(h:endS t .tm 0=none):PV.tup [z6P,pI 0,.bool false]=ia t:=by
 rw[ve Uo,List.drop_zero]at h;unfold ia;cases a:kS t with
 |none=>rfl
 |some q=>rw[a]at h;cases h
theorem EV{t:List Nd}{e:Nat}(h:endS t .tm 0=some e):∃x,Ok .tm x/\t=row x++t.drop e/\(row x).length=e/\ia t= .tup [bE x,pI (e:Int),.bool true]:=by
 rw[ve Uo,List.drop_zero]at h;unfold ia;cases a:kS t with
 |none=>rw[a]at h;cases h
 |some q=>
  obtain⟨x,r⟩:=q;rw[a]at h;obtain⟨b,d⟩:=zJ a;simp only[Option.map_some,QZ]at h;have f:=KG List.length b;rw[JK]at f;have c:(row x).length=e:=Uo
  refine⟨x,d,?_,c,by simp only[h]⟩;rw[<- c]
  conv=>lhs;rw[b]
  conv=>rhs;rw[b,List.drop_left]
theorem Ld{n:Nd}{r:List Nd}(h:gu n=false):endS (n::r) .tm 0=none:=by
 refine uG _ _ λm a=>?_;obtain rfl:n=m:=by simpa using a
 simp only[cnt];rw[KY];rintro⟨b,c,d⟩;simp[gu,b,c,d]at h
theorem Lf{n:Nd}{r:List Nd}{x:Tr}(d:Ok .tm x)(h2:n.op=2){e:Nat}(h:n::r=row x++(n::r).drop e)(he:(row x).length=e):bE x= .agg (fL n [] ((r.take (e-1)).map ndP) []):=by
 have a:=jL d;rw[a]at h;obtain⟨b,h⟩:=List.cons.inj h;have c:kidsT x=[]:=by
  obtain⟨m,i⟩:=x;obtain rfl:n=m:=b;simp[kidsT,h2]
 have f:funsT x=[]:=KY (by rw[<- b,h2];decide);rw[c]at h a;simp only[cB,JD]at h a;rw[a]at he;have:atmsT x=r.take (e-1):=by
  rw[h,<- he,JV,Nat.add_sub_cancel];exact List.take_left.symm
 show PV.agg (fL _ _ _ _)=_;rw[c,f,this,<- b]
 rfl
theorem qt{x:Tr}(v:Ok .tm x):((kidsT x).length:Int)=cA x.n/\gu x.n=true/\(x.n.op=12 ->2*(funsT x).length=(kidsT x).length):=by
 obtain⟨n,b⟩:=x;obtain⟨z,l,i⟩:=v.kids;obtain⟨c,A,d,m⟩:=fq z;have D:=nX c;have E:=dn c;have o:gu n=true:=by simp[gu,c,A,d]
 show ((kidsT (.mk n b)).length:Int)=cA n/\gu n=true/\(n.op=12 ->2*(funsT (.mk n b)).length=(kidsT (.mk n b)).length)
 by_cases j:n.op=2
 ·have e:kidsT (.mk n b)=[]:=by simp[kidsT,j]
  rw[e];exact⟨by simp[cA,j],o,λh=>absurd h Uo⟩
 ·rw[KY j]at m
  by_cases a:n.op=12
  ·have hb:aX n.b 1 4=true:=by simp[aG,a]at c;exact c.1
   have hb:=dE.1 hb;have q:bv n=n.b:=by simp[bv,a]
   have s:∀(r:List Tr) (k:Nat),bC cnt nx r n .tm k ->fc' r=true ->(r.flatMap (·.ks)).length=2*r.length:=by
    intro r
    induction r with
    |nil=>intros;rfl
    |cons y r F=>
     intro k q i;obtain⟨u,_,_⟩:=kJ q i;rw[show nx Md.tm n 0= .fn by simp[nx,a]]at u;obtain⟨f,I,K,rfl,_⟩:=u.fn;simp only[List.flatMap_cons,JK,JV];rw[F (k+1) q.2 (o7 i).2];simp[Tr.ks];omega
   have e:kidsT (.mk n b)=b.flatMap (·.ks):=by simp[kidsT,a]
   have H:funsT (.mk n b)=b.map (·.n):=KX a;rw[e,H,s b 0 l i,KF];refine⟨?_,o,λ_=>rfl⟩;have t:IntKind.i64.wrap (2*n.b)=2*n.b:=by rw[IntKind.wrap_i64];omega
   simp[cA,a,t];omega
  ·have e:kidsT (.mk n b)=b:=by simp[kidsT,j,a]
   rw[e];refine⟨?_,o,λh=>absurd h a⟩;have t:IntKind.i64.wrap (2+n.b)=2+n.b:=by rw[IntKind.wrap_i64];omega
   have:bv n=cA n:=by
    simp only[bv,cA,a,d,if_false,t,or_false]
    repeat' split
    all_goals first|rfl|omega
   omega
theorem Lg{n:Nd}{r:List Nd}{x:Tr}{K:List Tr}{F:List Nd}(f:Ok .tm x)(h2:n.op≠2){e:Nat}(h:n::r=row x++(n::r).drop e)(he:(row x).length=e)(s:∀k∈K,Ok .tm k)(hl:(K.length:Int)=cA n)(m:n.op=12 ->2*F.length=K.length)(i:n.op≠12 ->F=[])(b:(n::r).take e=n::cB n.op F 0 K):bE x= .agg (fL n (K.map trP) [] (F.map ndP)):=by
 have o:=jL f;have c:n=x.n:=by
  rw[o]at h;exact(List.cons.inj h).1
 have t:(n::r).take e=row x:=by
  conv=>lhs;rw[h]
  rw[<- he,List.take_left]
 have q:atmsT x=[]:=KY (by rw[<- c];exact h2);obtain⟨u,_,d⟩:=qt f;rw[<- c]at u d;rw[t,o,q,<- c]at b;have b:=(List.cons.inj b).2;rw[List.nil_append]at b;obtain⟨v,y⟩:=ES Uo (λk z=>by
  obtain⟨j,l⟩:=JH z;exact EU f l) s (λa j _ l=>⟨_,_,List.getElem?_eq_getElem (by have:=d a;omega),List.getElem?_eq_getElem (by have:=m a;have:=d a;omega)⟩) b
 have A:funsT x=F:=by
  by_cases a:n.op=12
  ·have:=d a
   have:=m a;refine List.ext_getElem? λj=>?_
   by_cases l:j<F.length
   ·have:=y a (2*j) Uo Uo Uo
    rwa [show 2*j/2=j by omega]at this
   ·rw[QF Uo,QF Uo]
  ·rw[i a]
   exact KY (by rw[<- c];exact a)
 show PV.agg (fL _ _ _ _)=_;rw[v,A,q,<- c]
 rfl
def oi(t:List Nd)(i:Nat):Int:=if i=0 then -1 else ((t[i]?).map (·.a)).getD 0
theorem Lh{n:Nd}{r:List Nd}(h2:n.op=2)(t:aG n=true)(K:(n::r).length<=1000000):VC prog 148 [ah (n::r)] (ia (n::r)):=by
 have f:=DL (n::r) (a:=0) (n:=n) rfl h2 t;have hb:=dn t;have u:gu n=true:=by simp[gu,t,h2]
 have v:cA n=0:=by simp[cA,h2]
 have b:gX (n::r) n.b.toNat (-1) (0+1)=none ->PV.tup [z6P,pI 0,.bool false]=ia (n::r):=λh=>zL (by rw[f,h]);have L:=zG n;rw[u,v]at L;have O:=au ndP (n::r);refine vf 183 [.cell 2 145,.tmp 3,.tmp 4] τok func148 ?_;refine vn ?_ (by rw[O,JV];omega);refine vm 0 rfl ?_;refine ae L ?_;refine vm 0 rfl ?_;refine vm 0 rfl ?_;refine vy ?_;refine lF 7 4 1001 46 3 rfl rfl rfl UO<|aB τok (σ:=Nat) [(0,_),(2,_),(3,_),(4,_),(5,_),(7,_)] [(2,_)] (λi=>[(8,vI ((1+i:Nat):Int)),(9,vI i)]) (λi=>[(7,.st 0 145 [.p (pI n.op),.p (pI n.a),.p (pI n.b),.p (.raw (.slice none 0 0)),.row 1001,.p (.raw (.slice none 0 0))]),(1001,.rw 46 3 ((r.take i).map ndP))]) (λi=>i<=n.b.toNat/\i<=r.length/\gX (n::r) n.b.toNat (-1) (0+1)=gX (n::r) (n.b.toNat-i) (oi (n::r) i) (1+i)) (λi=>n.b.toNat-i) 0 ⟨KV _,KV _,rfl⟩ ?_;rintro i ⟨h1,P,k⟩;rw[k]at f b;refine aj<|vm 0 rfl ?_;refine af (λg=>?_) (λg=>?_)
 ·obtain⟨c,y⟩:∃c,n.b.toNat-i=c+1:=⟨n.b.toNat-i-1,Uo⟩
  rw[y]at f b k;simp only[gX]at f b k;refine af (λS=>?_) (λS=>?_)
  ·rw[QF Uo]at b
   exact vk ⟨_,_,rfl,rfl,b rfl⟩
  ·obtain⟨m,d⟩:∃m,(n::r)[1+i]?=some m:=⟨_,gE⟩
   rw[d]at b k;simp only at b k;refine vm (1+i) d ?_;refine af (λj=>?_) (λj=>?_)
   ·exact vk ⟨_,_,rfl,rfl,b (KY λq=>j q.1)⟩
   have j:m.op=3:=Uo
   refine vm (1+i) d ?_;refine bV (vd _ _ _) (λo=>?_) (λo=>?_)
   ·refine vm (1+i) d ?_
    refine bV (vd _ _ _) (λz=>?_) (λz=>?_)
    ·have A:aG m=true:=by simp[aG,j,o,z]
     have D:oi (n::r) i<m.a ->gX (n::r) n.b.toNat (-1) (0+1)=gX (n::r) (n.b.toNat-(i+1)) (oi (n::r) (i+1)) (1+(i+1)):=λT=>by
      rw[k,KX ⟨j,A,T⟩,show n.b.toNat-(i+1)=c by omega];have e:oi (n::r) (i+1)=m.a:=by
       unfold oi;rw[KY Uo,Nat.add_comm i 1,d]
       rfl
      rw[e]
      rfl
     have M:(r.take i).map ndP++[ndP m]=(r.take (i+1)).map ndP:=by
      have E:r[i]?=some m:=by rwa [Nat.add_comm,List.getElem?_cons_succ]at d
      rw[QQ,E];simp
     refine af (λU=>?_) (λU=>?_)
     ·obtain⟨p,s⟩:∃p,(n::r)[i]?=some p:=⟨_,List.getElem?_eq_getElem (by rw[JV];omega)⟩
      have F:oi (n::r) i=p.a:=by unfold oi;rw[KY Uo,s];rfl
      rw[F]at b D;refine vm (1+i) d ?_;refine vi ?_;refine vm i s ?_;refine af (λV=>?_) (λV=>?_)
      ·exact vk ⟨_,_,rfl,rfl,b (KY λq=>by have:=q.2.2;omega)⟩
      ·refine vk ?_
       refine vm (1+i) d ?_;refine bi ?_;refine vk ?_;refine vi ?_;refine vi ?_;exact aw (i+1) ⟨Uo,by have:=aM d;rw[JV]at this;omega,D Uo⟩ (sw 1001 101) (y':=⟨rfl,KG (λl=>some (SE.rw _ _ l)) M,trivial⟩)
     ·refine vk ?_
      refine vm (1+i) d ?_;refine bi ?_;refine vk ?_;refine vi ?_;refine vi ?_;exact aw (i+1) ⟨Uo,by have:=aM d;rw[JV]at this;omega,D (by rw[oi,KX Uo];have:=dE.1 o;omega)⟩ (sw 1001 101) (y':=⟨rfl,KG (λl=>some (SE.rw _ _ l)) M,trivial⟩)
    ·exact vk ⟨_,_,rfl,rfl,b (KY λq=>by simp[aG,j,o,z]at q)⟩
   ·exact vk ⟨_,_,rfl,rfl,b (KY λq=>by simp[aG,j,o]at q)⟩
 ·rw[show n.b.toNat-i=0 by omega]at f
  simp only[gX]at f;obtain⟨x,W,Z,H,hr⟩:=EV f;have I:=Lf W h2 Z H;refine aB τok (σ:=Unit) [(2,_),(3,_),(4,_),(5,_),(7,_),(8,_)] [(2,_),(7,_),(1001,_)] (λ_=>[(10,vI 0)]) (λ_=>[]) (λ_=>True) (λ_=>0) () VQ ?_;rintro _ _;refine aj<|vn ?_;exact aE (h3:=by rw[hr,I,show 1+i-1=i by omega];rfl)
end Go.Q
