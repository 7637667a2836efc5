import Derived.Test.YtjnjbghlemiklaaGreatMq04
import Derived.Lib.AppendZerosOnto
set_option linter.unusedVariables false
set_option linter.unusedSimpArgs false
set_option linter.unusedSectionVars false
set_option maxHeartbeats 4000000
open Go.Proofs.Tryz
namespace Go.Proofs.YtjnjbghlemiklaaGreat
open Go.Wx Cd Tm
def Hn(x:Tr)(w w':World)(v:Value):Prop:=∃a c,v= .slice a (row x).length c/\Sl rNd (New w.heap.size w') a (row x)/\(row x).length<=c
def BO(bf bb:Nat)(fr by_:Int)(w:World)(_:Unit):Prop:=Bk w.heap bf [iV fr] 3/\Bk w.heap bb [iV by_] 3
theorem wI{U:Type}{h:Int ->Nd ->Option Tr}{G:Nat}(g:1<=G)(c:∀d n y,h d n=some y ->(row y).length<=G):∀(u:U) l n d b a,gU h (u,l) n d=some (b,a) ->a.length<=l.length+G:=by
 intro u l n d b a e;simp only[gU]at e;split at e
 ·split at e
  ·cases e
  ·rename_i y f
   have:=c d n y f;simp only[Option.some.injEq,Prod.mk.injEq]at e;rw[<- e.2,JK];omega
 ·simp only[Option.some.injEq,Prod.mk.injEq]at e
  rw[<- e.2];simp;omega
theorem BP{by_ fr d:Int}{n:Nd}{y:Tr}(e:fB by_ fr d n=some y):(row y).length=1:=by
 simp only[fB]at e;split at e
 ·split at e
  ·cases e
  ·obtain rfl:=JB e
   rfl
 ·obtain rfl:=JB e
  rfl
end Go.Proofs.YtjnjbghlemiklaaGreat
namespace Tm
open Go Go.Wx Cd
mutual
def varsT:Tr ->Int ->Int ->List (Int×Int)
 | .mk n ks,d,nb=>if n.op=1 then [(n.a,d)]else varsK ks n nb 0 d
def varsK:List Tr ->Nd ->Int ->Int ->Int ->List (Int×Int)
 |[],_,_,_,_=>[]
 |x::r,n,nb,k,d=>varsT x (d+arC n nb k) n.b++varsK r n nb (k+1) d
end
section
variable{S:Type}(met:S ->Int ->Int ->S×Bool)
def mp(p:Bool×S)(a d:Int):Bool×S:=if p.1=true then p else ((met p.2 a d).2,(met p.2 a d).1)
def fJ(p:Bool×S):List (Int×Int) ->Bool×S
 |[]=>p
 |q::r=>fJ (mp met p q.1 q.2) r
theorem Ho(p:Bool×S)(l m:List (Int×Int)):fJ met p (l++m)=fJ met (fJ met p l) m:=by
 induction l generalizing p with
 |nil=>rfl
 |cons q l a=>exact a _
def mq(s:(Bool×S)×List Nd)(n:Nd)(d:Int):Option ((Bool×S)×List Nd):=some (if n.op=1 then mp met s.1 n.a d else s.1,s.2)
mutual
theorem wT_e:∀(x:Tr) (s:Md) (d nb:Int) (p:Bool×S) (l:List Nd),okT cnt nx x s ->∃a,wT (mq met) cE x d nb (p,l)=some (fJ met p (varsT x d nb),a)
 | .mk n ks,s,d,nb,p,l,f=>by
  obtain⟨hc,c⟩:=f
  by_cases b:n.op=1
  ·have:ks=[]:=List.length_eq_zero_iff.1 (oC hc b)
   subst this;exact⟨l,by simp[wT,mq,b,wK,varsT,fJ]⟩
  ·by_cases e:n.op=3 \/n.op=13
   ·obtain⟨a,h⟩:=FO' ks n s nb 0 d 0 p (l++[n]) c
    exact⟨a,by simp only[wT,if_pos e,cE,varsT,if_neg b];exact h⟩
   ·obtain⟨a,h⟩:=FO' ks n s nb 0 d 0 p l c
    exact⟨a,by simp only[wT,if_neg e,mq,varsT,if_neg b];exact h⟩
theorem FO':∀(ks:List Tr) (n:Nd) (s:Md) (nb k d:Int) (j:Nat) (p:Bool×S) (l:List Nd),okL cnt nx ks n s j ->∃a,wK (mq met) cE ks n nb k d (p,l)=some (fJ met p (varsK ks n nb k d),a)
 |[],n,s,nb,k,d,j,p,l,_=>⟨l,by simp[wK,varsK,fJ]⟩
 |x::r,n,s,nb,k,d,j,p,l,b=>by
  obtain⟨c,hr⟩:=b;obtain⟨e,f⟩:=wT_e x (nx s n j) (d+arC n nb k) n.b p l c;obtain⟨g,i⟩:=FO' r n s nb (k+1) d (j+1) (fJ met p (varsT x (d+arC n nb k) n.b)) e hr;exact⟨g,by simp only[wK,f,varsK,Ho];exact i⟩
end
end
theorem sL(f:Int ->Int ->Bool):∀(l:List (Int×Int)) (b:Bool),(fJ (λ_ a d=>((),f a d)) (b,()) l).1=(b||l.any λq=>f q.1 q.2)
 |[],b=>by simp[fJ]
 |q::r,b=>by
  cases b with
  |true=>
   simp only[fJ,mp,if_true,Bool.true_or];rw[sL f r true];simp
  |false=>
   simp only[fJ,mp,List.any_cons];rw[if_neg OO,sL f r];simp
def jI(x:Tr)(n:Int):Bool:=(varsT x 0 0).all λq=>decide (q.1-q.2<max n 0)
def nJ(x:Tr)(v:Int):Int×Int:=(varsT x 0 0).foldl (λs q=>if q.1-q.2=v then (s.1+1,max s.2 q.2)else s) (0,0)
theorem BQ(v:Int):∀(l:List (Int×Int)) (s:Int×Int),fJ (λ(s:Int×Int) a d=>(if a-d=v then (s.1+1,max s.2 d)else s,false)) (false,s) l=(false,l.foldl (λs q=>if q.1-q.2=v then (s.1+1,max s.2 q.2)else s) s)
 |[],s=>rfl
 |q::r,s=>by
  simp only[fJ,mp,List.foldl_cons];rw[if_neg OO];exact BQ v r _
mutual
theorem gJ':∀(x:Tr) (d nb:Int),(varsT x d nb).length<=(row x).length
 | .mk n ks,d,nb=>by
  simp only[varsT,row,JV];split
  ·simp
  ·have:=mD' ks n nb 0 d
   omega
theorem mD':∀(ks:List Tr) (n:Nd) (nb k d:Int),(varsK ks n nb k d).length<=(rows ks).length
 |[],n,nb,k,d=>by simp[varsK,rows]
 |x::r,n,nb,k,d=>by
  have h1:=gJ' x (d+arC n nb k) n.b;have a:=mD' r n nb (k+1) d;simp only[varsK,rows,JK];omega
end
theorem wJ(v:Int):∀(l:List (Int×Int)) (s:Int×Int) (D:Int),0<=s.1 ->0<=s.2 ->s.2<=D ->(∀q∈l,0<=q.2/\q.2<=D) ->0<=(l.foldl (λs q=>if q.1-q.2=v then (s.1+1,max s.2 q.2)else s) s).1/\(l.foldl (λs q=>if q.1-q.2=v then (s.1+1,max s.2 q.2)else s) s).1<=s.1+l.length/\0<=(l.foldl (λs q=>if q.1-q.2=v then (s.1+1,max s.2 q.2)else s) s).2/\(l.foldl (λs q=>if q.1-q.2=v then (s.1+1,max s.2 q.2)else s) s).2<=D
 |[],s,D,h1,h2,h3,_=>⟨h1,Od,h2,h3⟩
 |q::r,s,D,h1,h2,h3,h=>by
  simp only[List.foldl_cons,JV];have a:=h q Od
  by_cases e:q.1-q.2=v
  ·rw[if_pos e]
   have:=wJ v r (s.1+1,max s.2 q.2) D OS OS OS (λq a=>h q (by simp[a]));simp only at this;refine⟨this.1,Oo,this.2.2.1,this.2.2.2⟩
  ·rw[if_neg e]
   have:=wJ v r s D h1 h2 h3 (λq a=>h q (by simp[a]));refine⟨this.1,Oo,this.2.2.1,this.2.2.2⟩
mutual
theorem fh':∀(x:Tr) (s:Md) (d nb:Int),okT cnt nx x s ->0<=d ->0<=nb ->nb<=4 ->∀q∈varsT x d nb,d<=q.2/\q.2<=d+4*(row x).length/\0<=q.1/\q.1<=1048576
 | .mk n ks,s,d,nb,e,f,g,h4,q,a=>by
  obtain⟨hc,i⟩:=e;simp only[varsT]at a;split at a
  ·rename_i k
   simp only[JJ,JZ,or_false]at a;subst a;have b:aw n=true:=by
    cases s with
    |tm=>exact(eb hc).1
    |fn=>exact(nG hc).1
    |am=>
     simp only[cnt]at hc;split at hc
     ·rename_i q
      exact q.2
     ·cases hc
   have:=db b;simp only[row,JV];omega
  ·have j:0<=n.b/\(n.op=12 ->n.b<=4):=by
    have b:aw n=true:=by
     cases s with
     |tm=>exact(eb hc).1
     |fn=>exact(nG hc).1
     |am=>
      simp only[cnt]at hc;split at hc
      ·rename_i q
       exact q.2
      ·cases hc
    refine⟨(db b).1,λc=>?_⟩;have:aE n.b 1 4=true:=by simp[aw,c]at b;exact b.1
    exact(dq.1 this).2
   have:=sQ' ks n s nb 0 d 0 i f g h4 j q a;simp only[row,JV];omega
theorem sQ':∀(ks:List Tr) (n:Nd) (s:Md) (nb k d:Int) (j:Nat),okL cnt nx ks n s j ->0<=d ->0<=nb ->nb<=4 ->(0<=n.b/\(n.op=12 ->n.b<=4)) ->∀q∈varsK ks n nb k d,d<=q.2/\q.2<=d+4+4*(rows ks).length/\0<=q.1/\q.1<=1048576
 |[],n,s,nb,k,d,j,_,_,_,_,_,q,a=>by simp[varsK]at a
 |x::r,n,s,nb,k,d,j,p,t,u,h4,hb,q,a=>by
  obtain⟨o,hr⟩:=p;simp only[varsK,JW]at a;have z:0<=arC n nb k/\arC n nb k<=4:=by
   unfold arC;have:=wC n k;split
   ·split<;>omega
   ·omega
  simp only[rows,JK];rcases a with a|a
  ·by_cases g:n.op=12
   ·have:=fh' x (nx s n j) (d+arC n nb k) n.b o Oo hb.1 (hb.2 g) q a
    omega
   ·have e:varsT x (d+arC n nb k) n.b=varsT x (d+arC n nb k) 0:=by
     obtain⟨m,l⟩:=x;have i:m.op≠13:=λb=>by
      have c:=o.1;cases s with
      |tm=>
       have:nx Md.tm n j= .am \/nx Md.tm n j= .tm:=by
        simp only[nx,if_neg g];split<;>simp
       rcases this with e|e
       ·rw[e]at c
        simp[cnt,b]at c
       ·rw[e]at c
        exact(eb c).2.2.1 b
      |fn=>exact(eb (show cnt .tm m=_ from c)).2.2.1 b
      |am=>
       have c:cnt .am m=_:=c;simp[cnt,b]at c
     simp only[varsT];have:∀(l:List Tr) (k d nb f:Int),varsK l m nb k d=varsK l m f k d:=by
      intro l
      induction l with
      |nil=>intros;rfl
      |cons y l w=>
       intro k d nb f;simp only[varsK,lz i,w (k+1) d nb f]
     rw[this l 0 (d+arC n nb k) n.b 0]
    rw[e]at a;have:=fh' x (nx s n j) (d+arC n nb k) 0 o Oo Oo Oo q a;omega
  ·have:=sQ' r n s nb (k+1) d (j+1) hr t u h4 hb q a
   omega
end
end Tm
namespace Go.Proofs.YtjnjbghlemiklaaGreat
open Go.Wx Cd Tm
section
variable{S:Type}
def BR(f:Nat)(caps:Array Value)(MB:List Nat)(US:World ->S ->Prop)(met:S ->Int ->Int ->S×Bool):Prop:=
 ∀(w:World) (s:S) (a d:Nat),a<=1048576 ->d<=100000 ->US w s ->dz prog f/\Calls prog f (#[]++[iV (a:Int),iV (d:Int)].toArray++caps) w (λe w'=>e= .returned (.bool (met s a d).2)/\US w' (met s a d).1/\Kp MB w w')
def BS(bf bm f:Nat)(caps:Array Value)(US:World ->S ->Prop)(w:World)(p:Bool×S):Prop:=Bk w.heap bf [.bool p.1] 4/\Bk w.heap bm [.func (.func f) #[] caps] 190/\US w p.2
end
end Go.Proofs.YtjnjbghlemiklaaGreat
namespace Tm
open Go Go.Wx Cd
section
variable{h:Int ->Nd ->Option Tr}
mutual
theorem os':∀(x:Tr) (s:Md) (d nb:Int),okT cnt nx x s ->(∀q∈varsT x d nb,∀n:Nd,n.op=1 ->n.a=q.1 ->(h q.2 n).isSome=true) ->(gT h x d nb).isSome=true
 | .mk n ks,s,d,nb,c,b=>by
  obtain⟨hc,f⟩:=c
  by_cases a:n.op=1
  ·simp only[gT,a,if_true]
   exact b (n.a,d) (by simp[varsT,a]) n a rfl
  ·simp only[gT,if_neg a]
   have:=sR' ks n s nb 0 d 0 f (λq g=>b q (by simpa[varsT,a]using g));cases e:gK h ks n nb 0 d with
   |none=>rw[e]at this;cases this
   |some i=>rfl
theorem sR':∀(ks:List Tr) (n:Nd) (s:Md) (nb k d:Int) (j:Nat),okL cnt nx ks n s j ->(∀q∈varsK ks n nb k d,∀n:Nd,n.op=1 ->n.a=q.1 ->(h q.2 n).isSome=true) ->(gK h ks n nb k d).isSome=true
 |[],n,s,nb,k,d,j,_,_=>rfl
 |x::r,n,s,nb,k,d,j,f,b=>by
  obtain⟨g,hr⟩:=f;have c:=os' x (nx s n j) (d+arC n nb k) n.b g (λq a=>b q (by simp[varsK,a]));have e:=sR' r n s nb (k+1) d (j+1) hr (λq a=>b q (by simp[varsK,a]));simp only[gK];cases i:gT h x (d+arC n nb k) n.b with
  |none=>rw[i]at c;cases c
  |some y=>
   cases l:gK h r n nb (k+1) d with
   |none=>rw[l]at e;cases e
   |some m=>rfl
end
end
def dL(x:Tr):Prop:=∀q∈varsT x 0 0,q.1<=500000
def aH(x:Tr)(by_ fr:Int):Tr:=(ka x by_ fr).getD x
theorem mr{x:Tr}(a:Ok .tm x)(b:dL x){by_ fr:Int}(hb:by_<=500000):ka x by_ fr=some (aH x by_ fr):=by
 have h:(ka x by_ fr).isSome=true:=os' x .tm 0 0 a.1 (λq c n _ d=>by
  have:=b q c;unfold fB;split
  ·rw[if_neg Oo];rfl
  ·rfl)
 unfold aH;cases e:ka x by_ fr with
 |none=>rw[e]at h;cases h
 |some y=>rfl
theorem wL{x:Tr}(a:Ok .tm x)(b:dL x){by_ fr:Int}(c:0<=by_)(hb:by_<=500000):Ok .tm (aH x by_ fr):=Hk c a (mr a b hb)
def jJ(u:Tr)(b:Int):Tr:=if 0<=b/\b<=500000 then aH u b 0 else u
def eo(u:Tr)(v:Int)(d:Int)(n:Nd):Option Tr:=if n.a=v+d then some (jJ u (v+d))else if v+d<n.a/\0<n.a then some (.mk {n with a:=n.a-1} [])else some (.mk n [])
def eu(x u:Tr)(v:Int):Tr:=(gT (eo u v) x 0 0).getD x
theorem oE{x u:Tr}(a:Ok .tm x)(v:Int):gT (eo u v) x 0 0=some (eu x u v):=by
 have h:(gT (eo u v) x 0 0).isSome=true:=os' x .tm 0 0 a.1 (λq b n _ c=>by
  unfold eo;split
  ·rfl
  ·split<;>rfl)
 unfold eu;cases e:gT (eo u v) x 0 0 with
 |none=>rw[e]at h;cases h
 |some y=>rfl
theorem BU{u:Tr}(a:Ok .tm u)(c:dL u)(b:Int):Ok .tm (jJ u b):=by
 unfold jJ;split
 ·rename_i h
  exact wL a c h.1 h.2
 ·exact a
theorem wN{x u:Tr}(c:Ok .tm x)(g:Ok .tm u)(i:dL u){v:Int}:Ok .tm (eu x u v):=
 (wD (h:=eo u v) (λd n y j a e=>by
  have b:aE n.a 0 1048576=true/\n.b=0:=by simpa[aw,a]using j
  have f:=dq.1 b.1;simp only[eo]at e;split at e
  ·obtain rfl:=JB e
   exact BU g i _
  ·split at e
   ·obtain rfl:=JB e
    exact nH (by simpa using a) OS OS b.2
   ·obtain rfl:=JB e
    exact nH a f.1 f.2 b.2) x .tm 0 0 _ c (oE c v)).1
end Tm
namespace Go.Proofs.YtjnjbghlemiklaaGreat
open Go.Wx Cd Tm
theorem je{x:Tr}(a:Ok .tm x)(hl:(row x).length<=4096):eg (row x)=0:=by
 unfold eg;rw[if_neg Oo,BE a]
 rfl
theorem Hp{h:Int ->Nd ->Option Tr}{G:Nat}(a:1<=G)(b:∀d n y,h d n=some y ->(row y).length<=G){x y:Tr}{d nb:Int}(c:Ok .tm x)(e:gT h x d nb=some y):(row y).length<=G*(row x).length:=by
 have:=EV' (h:=h) x .tm d nb () [] c.1;rw[e]at this;have:=BH a (wI a b) x d nb () [] () _ this
 simpa using this
theorem wO{x:Tr}(a:Ok .tm x)(b:dL x){by_ fr:Int}(hb:by_<=500000):(row (aH x by_ fr)).length<=(row x).length:=by
 have:=Hp (KJ 1) (λd n y e=>by rw[BP e];exact KJ _) a (mr a b hb (fr:=fr));omega
section
variable{C:Mem}
def BV(ba bt bd:Nat)(v:Int)(w:World)(s:Int×Int):Prop:=Bk w.heap ba [iV v] 3/\Bk w.heap bt [iV s.1] 3/\Bk w.heap bd [iV s.2] 3/\I64 s.1
def Hq(v:Int)(s:Int×Int)(a d:Int):(Int×Int)×Bool:=(if a-d=v then (IntKind.wrap .i64 (s.1+1),max s.2 d)else s,false)
end
def BW(ba bu:Nat)(v:Int)(ua:Option Addr)(n cap:Nat)(w:World)(_:Unit):Prop:=Bk w.heap ba [iV v] 3/\Bk w.heap bu [.slice ua n cap] 29
theorem BX{u:Tr}(c:Ok .tm u)(a:dL u)(b:Int):(row (jJ u b)).length<=(row u).length:=by
 unfold jJ;split
 ·rename_i h
  exact wO c a h.2
 ·exact KJ _
theorem Hr{u:Tr}(b:Ok .tm u)(a:dL u){v d:Int}{n:Nd}{y:Tr}(e:eo u v d n=some y):(row y).length<=(row u).length:=by
 have c:=aS u;simp only[eo]at e;split at e
 ·obtain rfl:=JB e
  exact BX b a _
 ·split at e
  ·obtain rfl:=JB e
   simp[row,rows];omega
  ·obtain rfl:=JB e
   simp[row,rows];omega
def gc(x u:Tr)(v:Int):Bool:=decide (4096<((row x).length:Int)+(nJ x v).1*(((row u).length:Int)-1))
end Go.Proofs.YtjnjbghlemiklaaGreat
namespace Go.Wx
def rVal:Rd Value where
 sz:=1
 den C cs x:=cs=[x]/\x.oneCell'=true
 len:=by rintro C cs x ⟨rfl,_⟩;rfl
 mono:=by rintro C C' cs x hc h;exact h
 one:=by rintro C cs x ⟨rfl,h⟩ u hu;simp at hu;subst hu;exact h
theorem zn':Flat rVal:=λ_ _ _ _ h=>h
theorem Sl.none_nil{α:Type}{R:Rd α}{C:Mem}{l:List α}(h:Sl R C none l):l=[]:=by
 rcases h.2 with h|⟨_,_,h,_⟩
 ·exact List.length_eq_zero_iff.1 h
 ·cases h
end Go.Wx
namespace Go.Proofs.YtjnjbghlemiklaaGreat
open Go.Wx Cd Tm
def Hs(l:List Nd)(w w':World)(v:Value):Prop:=∃a c,v= .slice a l.length c/\Sl rNd (New w.heap.size w') a l/\l.length<=c
structure PtS(C:Mem)(w0 w:World)(t:List Nd)(ta:Option Addr)(cap bt ba bo br bn:Nat)(cn:List Value)(p:Nat)(vo vr:Value)(os:List Value)(rs:List Int):Prop where
 sub:Sub C w
 k0:Kp [] w0 w
 low:w0.heap.size<=bt/\w0.heap.size<=ba/\w0.heap.size<=bo/\w0.heap.size<=br/\w0.heap.size<=bn
 nd:[bt,ba,bo,br,bn].Nodup
 cbt:Bk w.heap bt [.slice ta t.length cap] 29
 cba:Bk w.heap ba [iV (p:Int)] 3
 cbo:Bk w.heap bo [vo] 64
 cbr:Bk w.heap br [vr] 156
 cbn:Bk w.heap bn cn 42
 oo:Own rVal 29 w0.heap.size w vo os
 orr:Own ve' 3 w0.heap.size w vr rs
 f1:∀g,vo.ownBlock=some g ->g ∉ [bt,ba,bo,br,bn]/\vr.ownBlock≠some g
 f2:∀g,vr.ownBlock=some g ->g ∉ [bt,ba,bo,br,bn]
end Go.Proofs.YtjnjbghlemiklaaGreat
namespace Tm
open Go Go.Wx Cd
def kidsT:Tr ->List Tr
 | .mk n ks=>if n.op=2 then []else if n.op=12 then ks.flatMap (·.ks)else ks
def sM(C:Mem)(os:List Value)(ys:List Tr):Prop:=os.length=ys.length/\∀(i:Nat) v y,os[i]?=some v ->ys[i]?=some y ->∃a c,v= .slice a (row y).length c/\Sl rNd C a (row y)/\(row y).length<=c
theorem fP':∀{ks:List Tr},(∀k∈ks,k.ks.length=2) ->(ks.flatMap (·.ks)).length=2*ks.length
 |[],_=>rfl
 |k::r,h=>by
  simp only[List.flatMap_cons,JK,JV];rw[h k Od,fP' λk a=>h k (by simp[a])];omega
end Tm
namespace Go.Proofs.YtjnjbghlemiklaaGreat
open Go.Wx Cd Tm
def kbT(n:Nd)(k:Nat):Int:=if n.op=12 then (if k%2=1 then n.b else 0)else aY n k
def BY(ys:List Tr)(w w':World)(v:Value):Prop:=∃a c,v= .slice a ys.length c/\Sl (gz rNd) (New w.heap.size w') a (ys.map row)/\ys.length<=c
theorem gA{x:Tr}(l:Ok .tm x):(kidsT x).length<=18:=by
 obtain⟨n,m⟩:=x;obtain⟨o,c,b⟩:=l.kids;obtain⟨d,_,_,e⟩:=eb o;have p:=mn d;simp only[kidsT];split
 ·simp
 ·rename_i q
  rw[if_neg q]at e;split
  ·rename_i a
   have:aE n.b 1 4=true:=by simp[aw,a]at d;exact d.1
   have t:=dq.1 this;have g:bp n=n.b:=by simp[bp,a]
   have i:∀(r:List Tr) (k:Nat),okL cnt nx r n .tm k ->eN' r=true ->(r.flatMap (·.ks)).length=2*r.length:=by
    intro r
    induction r with
    |nil=>intros;rfl
    |cons y r s=>
     intro k g b;obtain⟨j,_,_⟩:=jH g b;rw[show nx Md.tm n 0= .fn by simp[nx,a]]at j;obtain⟨f,u,w,rfl,_⟩:=j.fn;simp only[List.flatMap_cons,JK,JV];rw[s (k+1) g.2 (nF b).2];simp[Tr.ks];omega
   rw[i m 0 c b];omega
  ·omega
mutual
theorem hP':∀(x:Tr),∀y∈kidsT x,(row y).length<(row x).length
 | .mk n ks=>λy a=>by
  simp only[row,JV];simp only[kidsT]at a;split at a
  ·cases a
  ·split at a
   ·obtain⟨f,d,b⟩:=List.mem_flatMap.1 a
    have c:=eE' d;obtain⟨m,l⟩:=f;simp only[Tr.ks]at b;have e:=eE' b;simp only[row,JV]at c;omega
   ·have c:=eE' a
    omega
theorem eE':∀{ks:List Tr} {y:Tr},y∈ks ->(row y).length<=(rows ks).length
 |x::r,y,h=>by
  simp only[rows,JK];rcases List.mem_cons.1 h with rfl|h
  ·omega
  ·have:=eE' h
   omega
end
end Go.Proofs.YtjnjbghlemiklaaGreat
namespace Tm
open Go Go.Wx Cd
mutual
def headT:Tr ->Tr
 | .mk n ks=>if n.op=6 then Ch' ks (.mk n ks)else .mk n ks
def Ch':List Tr ->Tr ->Tr
 |[],x=>x
 |f::_,_=>headT f
end
mutual
def argsT:Tr ->List Tr
 | .mk n ks=>if n.op=6 then Ci' ks else []
def Ci':List Tr ->List Tr
 |[]=>[]
 |f::r=>argsT f++r
end
theorem ms{n:Nd}{ks:List Tr}(i:Ok .tm (.mk n ks))(d:n.op=6):∃f a,ks=[f,a]/\Ok .tm f/\Ok .tm a:=by
 obtain⟨j,c,k⟩:=i.kids;obtain⟨_,_,_,b⟩:=eb j;simp[d,bp]at b
 match ks,b with
 |[f,a],_=>
  obtain⟨e,l,m⟩:=jH c k;obtain⟨g,_,_⟩:=jH l m;rw[show nx Md.tm n 0= .tm by simp[nx,d]]at e g;exact⟨f,a,rfl,e,g⟩
theorem kc{n:Nd}{f a:Tr}(b:n.op=6):headT (.mk n [f,a])=headT f:=by simp[headT,Ch',b]
theorem ke{n:Nd}{f a:Tr}(b:n.op=6):argsT (.mk n [f,a])=argsT f++[a]:=by simp[argsT,Ci',b]
theorem lA{n:Nd}{ks:List Tr}(a:n.op≠6):headT (.mk n ks)= .mk n ks:=by simp[headT,a]
theorem mu{n:Nd}{ks:List Tr}(a:n.op≠6):argsT (.mk n ks)=[]:=by simp[argsT,a]
end Tm
namespace Go.Wx
abbrev CC(f:FuncId)(args:Array Value)(w:World)(R:Ending ->World ->Prop):Prop:=dz Go.Proofs.Tryz.prog f/\Calls Go.Proofs.Tryz.prog f args w R
end Go.Wx
namespace Go.Proofs.YtjnjbghlemiklaaGreat
open Go.Wx Cd Tm
theorem jD':∀(N:Nat) (x:Tr),(row x).length<=N ->Ok .tm x ->(row (headT x)).length<=(row x).length/\(argsT x).length+(row (headT x)).length<=(row x).length/\Ok .tm (headT x)/\∀y∈argsT x,Ok .tm y/\(row y).length<(row x).length
 |0,x,h,_=>by have:=aS x;omega
 |N+1,.mk n l,h,d=>by
  by_cases c:n.op=6
  ·obtain⟨f,a,rfl,e,g⟩:=ms d c
   have i:(row (.mk n [f,a])).length=1+(row f).length+(row a).length:=by simp[row,rows];omega
   obtain⟨m,o,j,k⟩:=jD' N f Oo e;rw[kc c,ke c,i];have p:=aS a;refine⟨Oo,by simp only[JK,JV,JU];omega,j,λy b=>?_⟩;rcases List.mem_append.1 b with b|b
   ·obtain⟨q1,q⟩:=k y b
    exact⟨q1,Oo⟩
   ·obtain rfl:y=a:=by simpa using b
    exact⟨g,Oo⟩
  ·rw[lA c,mu c]
   exact⟨KJ _,Od,d,λy b=>by cases b⟩
theorem mw{T e sz bs ty:Nat}(b:Go.Wx.look τ.slcs T=some (e,sz,bs)){a:Option Addr}{n c:Nat}{w:World}{k:Value ->World ->Prop}(h:k (iV c) w):EvRun prog (Builtin.cap_ #[T] ty #[.slice a n c]) w k:=by
 obtain⟨d,_⟩:=τok.slcs T e sz bs b;exact run (by simp[Builtin.cap_,run_underlying d,goInt]) h
theorem Ht(z:Array Value)(n:Nat):(Builtin.zeroCells z n).size=n*z.size:=by simp[Builtin.zeroCells]
theorem wP{α:Type}{R:Rd α}{T e bs:Nat}{z:List Value}(D:Go.Wx.look τ.slcs T=some (e,R.sz,bs))(E:τ.zero e=some z)(u:0<R.sz)(m:z.length=R.sz)(g:bs<=100){w:World}{k:Value ->World ->Prop}(n:Nat)(F:0<n)(H:n<=1000000){ty:Nat}(I:∀B G w',B=w.heap.size ->n<=G ->Own R e w.heap.size w' (.slice (some ⟨B,0,none⟩) 0 G) [] ->Kp [] w w' ->k (.slice (some ⟨B,0,none⟩) n G) w'):
  EvRun prog (Builtin.append_ #[T,3] ty #[.slice none 0 0,iV (n:Int)]) w k:=by
 obtain⟨K,o,d,p,i⟩:=τok.slcs T e R.sz bs D;obtain⟨a,f,c,M,q,y⟩:=kX τok (T:=e) (z:=z) E;have:a=o:=by rw[c]at d;simpa using d
 subst this;have r:f.cells.size=R.sz:=by rw[q];simpa using m
 have j:n*bs<=1000000*100:=Nat.mul_le_mul H g;have h:=Lib.run_append_grow_zeros (P:=prog) w T 3 ty e a f .i64 .i64 K underlying3 c M none 0 0 [] (run_firstCells_none (w:=w.drew) a.size 0 0 0) n F Oo Oo OK (by rw[i];exact KQ j OO)
  (by rw[i];exact growslice_fits Oo (by rw[KW];exact KQ j OO))
 rw[KW]at h;have s:=grownCap_ge w n 0 e;have l:=grownCap_le_maxLen w n 0 e (by unfold maxLen;omega)
 generalize grownCap w n 0 e=G at h s l
 have t:Kp [] w (w.drew.alloc (.cells (#[]++Builtin.zeroCells f.cells n++Builtin.zeroCells f.cells (G-n)) e)):=⟨rfl,rfl,rfl,by
  show w.heap.size<=(w.heap.push _).size;simp,λb A _=>by
  show (w.heap.push _)[b]?=_;rw[Array.getElem?_push_lt A];simp[A]⟩
 refine run h (I _ _ _ rfl s ⟨⟨[],⟨Od,.inr ⟨w.heap.size,G,#[]++Builtin.zeroCells f.cells n++Builtin.zeroCells f.cells (G-n),rfl,KJ _,?_,Od,l,?_,Od⟩⟩,trivial⟩,?_⟩ t)
 ·show (w.heap.push _)[w.heap.size]?=_
  simp
 ·have:n*R.sz+(G-n)*R.sz=G*R.sz:=by rw[<- Nat.add_mul,Nat.add_sub_cancel' s]
  simp[Ht,r,this]
 ·show w.heap.size<=(w.heap.push _).size
  simp
theorem Hu(n:Nat)(a:0<n)(b:n<=1000000)(w:World):
  CC 200 #[.slice none 0 0,iV (n:Int)] w (λe w'=>∃v,e= .returned v/\Own rNd 42 w.heap.size w' v []/\Kp [] w w'):=by
 refine oF func200 ?_;refine cO (args:=[_,_]) 27 [.tmp 4] τok func200 ?_;refine mw rfl<|i6 ?_;refine i6 ?_;refine da (λg=>?_) (λg=>?_);rotate_left
 ·exact absurd Oo g
 refine mw rfl<|lY τok rfl 0 (.slice none 0 0) rfl (KJ _) rfl ?_;have e:((n:Int)-((0:Nat)-(0:Nat):Int))=(n:Int):=Oo
 rw[e];refine wP (R:=rNd) rfl rfl OO rfl OO n a b λB G f i j c d=>?_;exact lY τok rfl 0 _ rfl (KV _) ol<|⟨_,rfl,c,d⟩
end Go.Proofs.YtjnjbghlemiklaaGreat
namespace Tm
open Go Go.Wx Cd
def appN:Nd:=⟨6,0,0⟩
def al':Tr ->List Tr ->Tr
 |x,[]=>x
 |x,y::r=>al' (.mk appN [x,y]) r
theorem bJ':∀(ys:List Tr) (x:Tr),row (al' x ys)=List.replicate ys.length appN++(row x++rows ys)
 |[],x=>by simp[al',rows]
 |y::r,x=>by
  rw[al',bJ' r];simp only[row,rows,JV,JD];rw[List.replicate_succ'];simp[List.append_assoc]
theorem eF':∀(ys:List Tr) (x:Tr),Ok .tm x ->(∀y∈ys,Ok .tm y) ->Ok .tm (al' x ys)
 |[],x,a,_=>a
 |y::r,x,a,b=>by
  rw[al'];refine eF' r _ ?_ (λz c=>b z (by simp[c]));have h1:=b y Od;exact⟨⟨show cnt .tm appN=some 2 by decide,a.1,h1.1,trivial⟩,by simp[gE',eN',appN,a.2,h1.2]⟩
theorem Hv{D:Mem}{a:Option Addr}{ys:List Tr}(h:Sl (gz rNd) D a (ys.map row)):∃vs,Sl rVal D a vs/\sM D vs ys:=by
 have r:=h.1;rw[List.length_map]at r;rcases h.2 with t|⟨b,o,rfl,w⟩
 ·have:ys=[]:=by simpa using t
  subst this;exact⟨[],Sl.nil _ _ _,rfl,λi v y g=>by simp at g⟩
 ·have g:∀i:Nat,∃v,∀y,ys[i]?=some y ->(∃a c,v= .slice a (row y).length c/\Sl rNd D a (row y)/\(row y).length<=c)/\D b (o+i*1) v:=λi=>by
   cases e:ys[i]? with
   |none=>exact⟨.slice none 0 0,λy m=>by cases m⟩
   |some y=>
    obtain⟨F,⟨n,p,rfl,A,q⟩,B⟩:=w i (row y) (by rw[JX,e];rfl);refine⟨.slice n (row y).length p,λz E=>?_⟩;obtain rfl:=JB E;exact⟨⟨n,p,rfl,q,A⟩,B 0 _ rfl⟩
  obtain⟨f,s⟩:=Classical.axiomOfChoice g;have k:∀(i:Nat) (v:Value),((List.range ys.length).map f)[i]?=some v ->i<ys.length/\v=f i:=λi v g=>by
   rw[JX]at g;obtain⟨j,l,rfl⟩:=Option.map_eq_some_iff.1 g;have d:=aI l;simp at d;rw[List.getElem?_range d]at l;obtain rfl:=JB l;exact⟨d,rfl⟩
  refine⟨(List.range ys.length).map f,⟨by simpa using r,.inr ⟨b,o,rfl,λi v g=>?_⟩⟩,Od,λi v y g m=>?_⟩
  ·obtain⟨d,rfl⟩:=k i v g
   obtain⟨y,m⟩:∃y,ys[i]?=some y:=⟨ys[i],Od⟩
   obtain⟨⟨n,p,e,_⟩,q⟩:=s i y m;refine⟨[f i],⟨rfl,by rw[e];rfl⟩,λj u l=>?_⟩
   match j with
   |0=>
    obtain rfl:=JB l;exact q
   |j+1=>simp at l
  ·obtain⟨d,rfl⟩:=k i v g
   exact(s i y m).1
theorem fi':∀ys:List Tr,(ys.map row).flatten=rows ys
 |[]=>rfl
 |y::r=>by rw[List.map_cons,List.flatten_cons,fi' r,rows]
end Tm
namespace Go.Proofs.YtjnjbghlemiklaaGreat
open Go.Wx Cd Tm
end Go.Proofs.YtjnjbghlemiklaaGreat
namespace Tm
open Go Go.Wx Cd
def dS(op:Int):List Tr ->Tr ->Tr
 |[],x=>x
 |d::r,x=>.mk ⟨op,0,0⟩ [d,dS op r x]
def dF(op:Int)(ys:List Tr):List Nd:=ys.flatMap λd=>⟨op,0,0⟩::row d
theorem sN(op:Int):∀(ys:List Tr) (x:Tr),row (dS op ys x)=dF op ys++row x
 |[],x=>by simp[dS,dF]
 |d::r,x=>by
  simp only[dS,row,rows,dF,List.flatMap_cons,JD];rw[sN op r x];simp[dF]
theorem wQ{op:Int}(a:op=4 \/op=5):∀(ys:List Tr) (x:Tr),Ok .tm x ->(∀y∈ys,Ok .tm y) ->Ok .tm (dS op ys x)
 |[],x,b,_=>b
 |d::r,x,b,c=>by
  have h1:=c d Od;have e:=wQ a r x b (λz g=>c z (by simp[g]));rw[dS];have i:cnt .tm ⟨op,0,0⟩=some 2:=by rcases a with rfl|rfl<;>decide
  have f:∀k,nx .tm ⟨op,0,0⟩ k= .tm:=λk=>by rcases a with rfl|rfl<;>rfl
  refine⟨⟨i,by rw[f];exact h1.1,by rw[f];exact e.1,trivial⟩,?_⟩;have:op≠2:=Oo
  simp[gE',eN',h1.2,e.2,this]
theorem Hw(op:Int)(ys:List Tr)(d:Tr):dF op (ys++[d])=dF op ys++(⟨op,0,0⟩::row d):=by simp[dF]
theorem preB_take(op:Int)(ys:List Tr)(i:Nat):(dF op (ys.take i)).length<=(dF op ys).length:=by
 have:dF op ys=dF op (ys.take i)++dF op (ys.drop i):=by
  unfold dF;rw[<- List.flatMap_append,List.take_append_drop]
 rw[this,JK];omega
end Tm
namespace Go.Proofs.YtjnjbghlemiklaaGreat
open Go.Wx Cd Tm
end Go.Proofs.YtjnjbghlemiklaaGreat
namespace Tm
open Go Go.Wx Cd
def BlD(x:Tr)(d nb n:Int):Prop:=∀q∈varsT x d nb,q.1-q.2<n
mutual
theorem wU(e:Int):∀(x:Tr) (d nb:Int),varsT x (d+e) nb=(varsT x d nb).map λq=>(q.1,q.2+e)
 | .mk n ks,d,nb=>by
  simp only[varsT];split
  ·rfl
  ·exact BZ e ks n nb 0 d
theorem BZ(e:Int):∀(ks:List Tr) (n:Nd) (nb k d:Int),varsK ks n nb k (d+e)=(varsK ks n nb k d).map λq=>(q.1,q.2+e)
 |[],n,nb,k,d=>rfl
 |x::r,n,nb,k,d=>by
  simp only[varsK,List.map_append];rw[<- wU e x (d+arC n nb k) n.b,<- BZ e r n nb (k+1) d,show d+e+arC n nb k=d+arC n nb k+e by omega]
end
theorem BlD.sh{x:Tr}{d nb n:Int}(e:Int):BlD x (d+e) nb n↔BlD x d nb (n+e):=by
 unfold BlD;rw[wU];constructor
 ·intro h q a
  have:=h (q.1,q.2+e) (List.mem_map_of_mem a);simp only at this;omega
 ·intro h q a
  obtain⟨p,b,rfl⟩:=List.mem_map.1 a;have:=h p b;simp only;omega
theorem BlD.z{x:Tr}{d nb n:Int}:BlD x d nb n↔BlD x 0 nb (n+d):=by
 rw[<- BlD.sh];simp
theorem sO{x:Tr}(h:x.n.op≠13)(d nb a:Int):varsT x d nb=varsT x d a:=by
 obtain⟨m,l⟩:=x;simp only[Tr.n]at h;simp only[varsT];have:∀(l:List Tr) (k d nb a:Int),varsK l m nb k d=varsK l m a k d:=by
  intro l
  induction l with
  |nil=>intros;rfl
  |cons y l b=>
   intro k d nb a;simp only[varsK,lz h,b (k+1) d nb a]
 rw[this l 0 d nb a]
theorem Ok.n13{x:Tr}(h:Ok .tm x):x.n.op≠13:=by
 obtain⟨n,a⟩:=x;exact h.tm.2.2
def Bl(x:Tr)(n:Int):Prop:=BlD x 0 0 n
theorem Bl.mono{x:Tr}{n m:Int}(h:Bl x n)(hm:n<=m):Bl x m:=λq a=>by have:=h q a;omega
theorem Ok.bld{x:Tr}(h:Ok .tm x){d nb n:Int}:BlD x d nb n↔Bl x (n+d):=by
 rw[BlD.z];unfold Bl BlD;rw[sO h.n13 0 nb 0]
def Al(Q:Nd ->Prop)(x:Tr):Prop:=∀m∈row x,Q m
def kg(Q:Nd ->Prop)(l:List Tr):Prop:=∀m∈rows l,Q m
theorem kh{Q:Nd ->Prop}{n:Nd}{ks:List Tr}:Al Q (.mk n ks)↔Q n/\kg Q ks:=by simp[Al,kg,row]
theorem my{Q:Nd ->Prop}{x:Tr}{r:List Tr}:kg Q (x::r)↔Al Q x/\kg Q r:=by
 unfold kg Al;simp only[rows,JW];exact⟨λh=>⟨λm a=>h m (.inl a),λm a=>h m (.inr a)⟩,λh m a=>a.elim (h.1 m) (h.2 m)⟩
theorem wV{Q:Nd ->Prop}:∀{l:List Tr} {x:Tr},kg Q l ->x∈l ->Al Q x
 |y::r,x,h,a=>by
  rw[my]at h;rcases List.mem_cons.1 a with rfl|a
  ·exact h.1
  ·exact wV h.2 a
theorem Al.mono{Q R:Nd ->Prop}{x:Tr}(h:Al Q x)(a:∀m,Q m ->R m):Al R x:=λm b=>a m (h m b)
section
variable{h:Int ->Nd ->Option Tr}{Q:Nd ->Prop}
mutual
theorem zo':∀(x:Tr) (d nb:Int) (y:Tr),(∀m∈row x,m.op=1 ->∀d z,h d m=some z ->Al Q z) ->Al Q x ->gT h x d nb=some y ->Al Q y
 | .mk n ks,d,nb,y,c,a,e=>by
  simp only[gT]at e;split at e
  ·rename_i h1
   exact c n (by simp[row]) h1 d y e
  ·split at e
   ·cases e
   ·rename_i b f
    obtain rfl:=JB e;rw[kh]at a ⊢;exact⟨a.1,Ck' ks n nb 0 d b (λm g=>c m (by simp[row,g])) a.2 f⟩
theorem Ck':∀(ks:List Tr) (n:Nd) (nb k d:Int) (a:List Tr),(∀m∈rows ks,m.op=1 ->∀d z,h d m=some z ->Al Q z) ->kg Q ks ->gK h ks n nb k d=some a ->kg Q a
 |[],n,nb,k,d,a,c,b,e=>by
  simp only[gK,Option.some.injEq]at e;subst e;exact b
 |x::r,n,nb,k,d,a,c,b,e=>by
  simp only[gK]at e;split at e
  ·cases e
  rename_i y g;split at e
  ·cases e
  rename_i i hr;obtain rfl:=JB e;rw[my]at b ⊢;exact⟨zo' x _ _ y (λm f=>c m (by simp[rows,f])) b.1 g,Ck' r n nb (k+1) d i (λm f=>c m (by simp[rows,f])) b.2 hr⟩
end
mutual
theorem wW{M:Int}(b:∀d n y,h d n=some y ->n.op=1 ->aw n=true ->Ok .tm y):∀(x:Tr) (s:Md) (d nb:Int) (y:Tr),okT cnt nx x s ->(∀q∈varsT x d nb,∀m:Nd,m.op=1 ->aw m=true ->m.a=q.1 ->∀z,h q.2 m=some z ->Bl z (M+q.2)) ->gT h x d nb=some y ->BlD y d nb M
 | .mk n ks,s,d,nb,y,k,i,e=>by
  obtain⟨hc,l⟩:=k;simp only[gT]at e;split at e
  ·rename_i a
   have j:aw n=true:=by
    cases s with
    |tm=>exact(eb hc).1
    |fn=>exact(nG hc).1
    |am=>
     simp only[cnt]at hc;split at hc
     ·rename_i q
      exact q.2
     ·cases hc
   rw[(b d n y e a j).bld];exact i (n.a,d) (by simp[varsT,a]) n a j rfl y e
  ·rename_i a
   split at e
   ·cases e
   ·rename_i f g
    obtain rfl:=JB e;have:=B1 b ks n s nb 0 d 0 f l (λq c=>i q (by simpa[varsT,a]using c)) g;intro q c;rw[varsT,if_neg a]at c;exact this q c
theorem B1{M:Int}(c:∀d n y,h d n=some y ->n.op=1 ->aw n=true ->Ok .tm y):∀(ks:List Tr) (n:Nd) (s:Md) (nb k d:Int) (j:Nat) (a:List Tr),okL cnt nx ks n s j ->(∀q∈varsK ks n nb k d,∀m:Nd,m.op=1 ->aw m=true ->m.a=q.1 ->∀z,h q.2 m=some z ->Bl z (M+q.2)) ->gK h ks n nb k d=some a ->∀q∈varsK a n nb k d,q.1-q.2<M
 |[],n,s,nb,k,d,j,a,f,g,e=>by
  simp only[gK,Option.some.injEq]at e;subst e;intro q b;simp[varsK]at b
 |x::r,n,s,nb,k,d,j,a,f,g,e=>by
  obtain⟨f,hr⟩:=f;simp only[gK]at e;split at e
  ·cases e
  rename_i y l;split at e
  ·cases e
  rename_i o i;obtain rfl:=JB e;have p:=wW c x (nx s n j) _ _ y f (λq b=>g q (by simp[varsK,b])) l;have t:=B1 c r n s nb (k+1) d (j+1) o hr (λq b=>g q (by simp[varsK,b])) i;intro q b;simp only[varsK,JW]at b;exact b.elim (p q) (t q)
end
end
theorem B2{x:Tr}(f:Ok .tm x)(i:dL x){b n:Int}(j:0<=b)(hb:b<=500000)(h:Bl x n):Bl (aH x b 0) (n+b):=by
 have:=wW (h:=fB b 0) (M:=n+b) (λd m y e c a=>BK j a c e) x .tm 0 0 _ f.1 (λq g m c a k z e=>by
  have g:=h q g;simp only[fB]at e;split at e
  ·split at e
   ·cases e
   ·obtain rfl:=JB e
    intro p a;simp only[varsT,c,if_true,JJ,JZ,or_false]at a;subst a;simp only;omega
  ·obtain rfl:=JB e
   intro p a;simp only[varsT,c,if_true,JJ,JZ,or_false]at a;subst a;simp only;omega) (mr f i hb)
 exact this
theorem B3{Q:Nd ->Prop}(c:∀m:Nd,m.op=1 ->Q m){x:Tr}(i:Ok .tm x)(j:dL x){b f:Int}(hb:b<=500000)(h:Al Q x):Al Q (aH x b f):=
 zo' x 0 0 _ (λm l g d z e=>by
  simp only[fB]at e;intro k a;split at e
  ·split at e
   ·cases e
   ·obtain rfl:=JB e
    simp only[row,rows,JJ,JZ,or_false]at a;subst a;exact c _ g
  ·obtain rfl:=JB e
   simp only[row,rows,JJ,JZ,or_false]at a;subst a;exact c _ g) h (mr i j hb)
theorem Hx{Q:Nd ->Prop}(a:∀m:Nd,m.op=1 ->Q m){x:Tr}(c:Ok .tm x)(d:dL x)(b:Int)(h:Al Q x):Al Q (jJ x b):=by
 unfold jJ;split
 ·rename_i g
  exact B3 a c d g.2 h
 ·exact h
theorem Hy{Q:Nd ->Prop}(b:∀m:Nd,m.op=1 ->Q m){x u:Tr}(f:Ok .tm x)(g:Ok .tm u)(i:dL u){v:Int}(h:Al Q x)(j:Al Q u):Al Q (eu x u v):=
 zo' x 0 0 _ (λm l c d z e=>by
  simp only[eo]at e;split at e
  ·obtain rfl:=JB e
   exact Hx b g i _ j
  ·intro k a
   split at e
   ·obtain rfl:=JB e
    simp only[row,rows,JJ,JZ,or_false]at a;subst a;exact b _ c
   ·obtain rfl:=JB e
    simp only[row,rows,JJ,JZ,or_false]at a;subst a;exact b _ c) h (oE f v)
theorem Hz{x u:Tr}(g:Ok .tm x)(j:Ok .tm u)(k:dL u)(hl:(row x).length<=4096){v n:Int}(t:0<=v)(w:v<=300000)(A:0<=n)(h:Bl x (n+1+v))(r:Bl u n):Bl (eu x u v) (n+v):=by
 have i:=fh' x .tm 0 0 g.1 Oo Oo Oo;have:=wW (M:=n+v) (h:=eo u v) (λd m y e f a=>by
   have c:aE m.a 0 1048576=true/\m.b=0:=by simpa[aw,f]using a
   have l:=dq.1 c.1;simp only[eo]at e;split at e
   ·obtain rfl:=JB e
    exact BU j k _
   ·split at e
    ·obtain rfl:=JB e
     exact nH (by simpa using f) OS OS c.2
    ·obtain rfl:=JB e
     exact nH f l.1 l.2 c.2) x .tm 0 0 _ g.1 (λq o m f a B z e=>by
  have s:=h q o;have D:=i q o;simp only[eo]at e;split at e
  ·obtain rfl:=JB e
   unfold jJ;rw[if_pos Oo];have:=B2 j k (b:=v+q.2) Oo Oo r;exact this.mono Oo
  ·split at e
   ·obtain rfl:=JB e
    intro p a;simp only[varsT,f,if_true,JJ,JZ,or_false]at a;subst a;simp only;omega
   ·obtain rfl:=JB e
    intro p a;simp only[varsT,f,if_true,JJ,JZ,or_false]at a;subst a;simp only;omega) (oE g v)
 exact this
def gV(l:List (Int×Int))(v:Int):Nat:=(l.filter λq=>decide (q.1-q.2=v)).length
theorem wX(v:Int):∀(l:List (Int×Int)) (s:Int×Int),(l.foldl (λs q=>if q.1-q.2=v then (s.1+1,max s.2 q.2)else s) s).1=s.1+gV l v
 |[],s=>by simp[gV]
 |q::r,s=>by
  simp only[List.foldl_cons,gV,List.filter_cons];rw[wX v r]
  by_cases e:q.1-q.2=v
  ·simp[e,gV];omega
  ·simp[e,gV]
theorem HA(l m:List (Int×Int))(v:Int):gV (l++m) v=gV l v+gV m v:=by simp[gV]
section
variable{h:Int ->Nd ->Option Tr}{v:Int}{L:Nat}
mutual
theorem B4(f:∀d n y,h d n=some y ->(row y).length<=1 \/(n.a-d=v/\(row y).length<=L))(i:1<=L):∀(x:Tr) (d nb:Int) (y:Tr) (s:Md),okT cnt nx x s ->gT h x d nb=some y ->((row y).length:Int)<=(row x).length+gV (varsT x d nb) v*((L:Int)-1)
 | .mk n ks,d,nb,y,s,j,e=>by
  obtain⟨hc,k⟩:=j;simp only[gT]at e;split at e
  ·rename_i a
   have:ks=[]:=List.length_eq_zero_iff.1 (oC hc a);subst this;rcases f d n y e with g|⟨g,l⟩
   ·simp only[varsT,if_pos a,row,rows,gV,List.filter_cons,List.filter_nil,List.length_singleton]
    split
    ·simp;omega
    ·simp;omega
   ·simp only[varsT,if_pos a,row,rows,gV,List.filter_cons,List.filter_nil,List.length_singleton]
    simp[g];omega
  ·rename_i a
   split at e
   ·cases e
   ·rename_i b c
    obtain rfl:=JB e;have:=B5 f i ks n nb 0 d b s 0 k c;simp only[varsT,if_neg a,row,JV];omega
theorem B5(f:∀d n y,h d n=some y ->(row y).length<=1 \/(n.a-d=v/\(row y).length<=L))(g:1<=L):∀(ks:List Tr) (n:Nd) (nb k d:Int) (a:List Tr) (s:Md) (j:Nat),okL cnt nx ks n s j ->gK h ks n nb k d=some a ->((rows a).length:Int)<=(rows ks).length+gV (varsK ks n nb k d) v*((L:Int)-1)
 |[],n,nb,k,d,a,s,j,b,e=>by
  simp only[gK,Option.some.injEq]at e;subst e;simp[rows,varsK,gV]
 |x::r,n,nb,k,d,a,s,j,b,e=>by
  obtain⟨b,hr⟩:=b;simp only[gK]at e;split at e
  ·cases e
  rename_i y i;split at e
  ·cases e
  rename_i l c;obtain rfl:=JB e;have m:=B4 f g x _ _ y _ b i;have o:=B5 f g r n nb (k+1) d l s (j+1) hr c;simp only[rows,varsK,JK,HA,Int.natCast_add,Int.add_mul];omega
end
end
end Tm
namespace Go.Proofs.YtjnjbghlemiklaaGreat
open Go.Wx Cd Tm
theorem sP{x u:Tr}(a:Ok .tm x)(b:Ok .tm u)(c:dL u){v:Int}(h:gc x u v=false):(row (eu x u v)).length<=4096:=by
 have i:=aS u;have:=B4 (h:=eo u v) (v:=v) (L:=(row u).length) (λd n y e=>by
  simp only[eo]at e;split at e
  ·rename_i g
   obtain rfl:=JB e;exact .inr ⟨Oo,BX b c _⟩
  ·split at e
   ·obtain rfl:=JB e
    exact .inl (by simp[row,rows])
   ·obtain rfl:=JB e
    exact .inl (by simp[row,rows])) Oo x 0 0 _ .tm a.1 (oE a v)
 have f:=wX v (varsT x 0 0) (0,0);unfold gc at h;have h:=of_decide_eq_false h;unfold nJ at h;rw[f]at h;simp only[Int.zero_add]at h;omega
structure Ft(Q:Nd ->Prop)(N:Int)(x:Tr):Prop where
 ok:Ok .tm x
 len:(row x).length<=4096
 bl:Bl x N
 al:Al Q x
structure Qk(Q:Nd ->Prop):Prop where
 var:∀m:Nd,m.op=1 ->Q m
 app:∀m:Nd,m.op=4 \/m.op=5 \/m.op=6 \/m.op=2 \/m.op=12 ->Q m
section
variable{Q:Nd ->Prop}{N:Int}{x:Tr}
theorem Ft.mono(h:Ft Q N x){M:Int}(hm:N<=M):Ft Q M x:=⟨h.ok,h.len,h.bl.mono hm,h.al⟩
theorem Ft.wk(h:Ft Q N x){R:Nd ->Prop}(a:∀m,Q m ->R m):Ft R N x:=⟨h.ok,h.len,h.bl,h.al.mono a⟩
theorem Ft.small(h:Ft Q N x)(b:N<=100000):dL x:=λq a=>by
 have c:=fh' x .tm 0 0 h.ok.1 Oo Oo Oo q a;have d:=h.bl q a;have:=h.len;omega
theorem Ft.lift(d:Qk Q)(h:Ft Q N x)(a:N<=100000){b:Int}(c:0<=b)(hb:b<=500000):Ft Q (N+b) (aH x b 0):=
 ⟨wL h.ok (h.small a) c hb,KQ (wO h.ok (h.small a) hb) h.len,B2 h.ok (h.small a) c hb h.bl,B3 d.var h.ok (h.small a) hb h.al⟩
theorem Ft.subst(e:Qk Q){u:Tr}{v:Int}(b:Ft Q (N+1+v) x)(a:Ft Q N u)(f:0<=N)(c:N<=100000)(d:0<=v)(g:v<=300000)(hb:gc x u v=false):Ft Q (N+v) (eu x u v):=
 ⟨wN b.ok a.ok (a.small c),sP b.ok a.ok (a.small c) hb,Hz b.ok a.ok (a.small c) b.len d g f b.bl a.bl,Hy e.var b.ok a.ok (a.small c) b.al a.al⟩
theorem wY{n:Nd}{nb:Int}:∀(ks:List Tr) (j:Int) (d:Int) (k:Nat) (y:Tr),ks[k]?=some y ->∀q∈varsT y (d+arC n nb (j+k)) n.b,q∈varsK ks n nb j d
 |x::r,j,d,0,y,h,q,a=>by
  simp only[List.getElem?_cons_zero,Option.some.injEq]at h;subst h;simp only[varsK,JW];exact .inl (by simpa using a)
 |x::r,j,d,k+1,y,h,q,a=>by
  simp only[List.getElem?_cons_succ]at h;simp only[varsK,JW];refine .inr (wY r (j+1) d k y h q ?_);rw[show j+1+(k:Int)=j+((k+1:Nat):Int) by omega];exact a
theorem iU{n:Nd}{s:Md}:∀(ks:List Tr) (j k:Nat) (y:Tr),okL cnt nx ks n s j ->ks[k]?=some y ->okT cnt nx y (nx s n (j+k))
 |x::r,j,0,y,h,a=>by
  simp only[List.getElem?_cons_zero,Option.some.injEq]at a;subst a;exact h.1
 |x::r,j,k+1,y,h,a=>by
  have:=iU r (j+1) k y h.2 (by simpa using a);rw[show j+(k+1)=j+1+k by omega];exact this
theorem dE':∀(ks:List Tr) (k:Nat) (y:Tr),eN' ks=true ->ks[k]?=some y ->gE' y=true
 |x::r,0,y,h,a=>by
  simp only[List.getElem?_cons_zero,Option.some.injEq]at a;subst a;exact(nF h).1
 |x::r,k+1,y,h,a=>dE' r k y (nF h).2 (by simpa using a)
def kb(n:Nd)(k:Nat):Int:=if n.op=12 then (if k%2=1 then n.b else 0)else aY n k
theorem vP':∀(ks:List Tr),(∀k∈ks,k.ks.length=2) ->∀(i:Nat) (y:Tr),(ks.flatMap (·.ks))[i]?=some y ->∃f,ks[i/2]?=some f/\f.ks[i%2]?=some y
 |[],_,i,y,h=>by simp at h
 |f::r,b,i,y,h=>by
  simp only[List.flatMap_cons]at h;have c:=b f Od
  by_cases j:i<2
  ·rw[List.getElem?_append_left Oo]at h
   refine⟨f,?_,?_⟩
   ·rw[show i/2=0 by omega];rfl
   ·rw[show i%2=i by omega];exact h
  ·rw[List.getElem?_append_right Oo,c]at h
   obtain⟨g,d,e⟩:=vP' r (λk a=>b k (by simp[a])) (i-2) y h;refine⟨g,?_,?_⟩
   ·rw[show i/2=(i-2)/2+1 by omega];exact d
   ·rw[show i%2=(i-2)%2 by omega];exact e
theorem B6{Q:Nd ->Prop}{ks:List Tr}{k:Nat}{y:Tr}(h:kg Q ks)(a:ks[k]?=some y):Al Q y:=wV h (JQ a)
theorem Ft.node{n:Nd}{ks:List Tr}(h:Ft Q N (.mk n ks)):Q n:=(kh.1 h.al).1
theorem Ft.var_lt{n:Nd}{ks:List Tr}(h:Ft Q N (.mk n ks))(h1:n.op=1):0<=n.a/\n.a<N/\ks=[]:=by
 have a:=h.ok.tm.1;have:=h.bl (n.a,0) (by simp[varsT,h1]);have b:=db a;exact⟨b.2.2.1,by simpa using this,List.length_eq_zero_iff.1 (oC h.ok.kids.1 h1)⟩
theorem Ft.kid{n:Nd}{ks:List Tr}(h:Ft Q N (.mk n ks)){k:Nat}{y:Tr}(c:(kidsT (.mk n ks))[k]?=some y):Ft Q (N+kb n k) y:=by
 obtain⟨T,m,F⟩:=h.ok.kids;obtain⟨U,V,o⟩:=h.ok.tm;have W:=hP' (.mk n ks) y (JQ c);have H:=h.len;have I:=(kh.1 h.al).2;simp only[kidsT]at c;split at c
 ·simp at c
 rename_i K;have u:n.op≠1:=λu=>by
  have:=(h.var_lt u).2.2;subst this;split at c<;>simp at c
 have M:∀q∈varsK ks n 0 0 0,q.1-q.2<N:=λq d=>h.bl q (by simpa[varsT,u]using d);split at c
 ·rename_i b
  have p:∀(i:Nat) f,ks[i]?=some f ->Ok .fn f:=λi f p=>⟨by
   have:=iU ks 0 i f m p
   rwa [show nx Md.tm n (0+i)= .fn by simp[nx,K,b]]at this,dE' ks i f F p⟩
  have w:∀k∈ks,k.ks.length=2:=λf P=>by
   obtain⟨i,z⟩:=JH P;obtain⟨g,A,B,rfl,_⟩:=(p i f z).fn
   rfl
  obtain⟨f,j,a⟩:=vP' ks w k y c;obtain⟨g,A,B,rfl,e,R,r,s⟩:=(p _ f j).fn;have t:=(kh.1 (B6 I j)).2;have D:∀q∈varsT (.mk g [A,B]) 0 n.b,q.1-q.2<N:=λq d=>M q (wY ks 0 0 (k/2) _ j q (by
   rw[show (0:Int)+arC n 0 (0+((k/2:Nat):Int))=0 by rw[lz o];simp[aY,b]];exact d))
  have E:g.op≠1:=Oo
  simp only[varsT,if_neg E,varsK,JD,JW]at D;simp only[Tr.ks]at a;unfold kb;rw[if_pos b]
  by_cases l:k%2=1
  ·rw[l]at a
   simp only[List.getElem?_cons_succ,List.getElem?_cons_zero,Option.some.injEq]at a;subst a;rw[if_pos l];refine⟨s,Oo,?_,(my.1 (my.1 t).2).1⟩;have:BlD B (0+arC g n.b (0+1)) g.b N:=λq d=>D q (.inr d);rw[s.bld]at this;refine this.mono ?_;simp[arC,e]
  ·rw[show k%2=0 by omega]at a
   simp only[List.getElem?_cons_zero,Option.some.injEq]at a;subst a;rw[if_neg l];refine⟨r,Oo,?_,(my.1 t).1⟩;have:BlD A (0+arC g n.b 0) g.b N:=λq d=>D q (.inl d);rw[r.bld]at this;refine this.mono ?_;simp[arC,e]
 ·rename_i b
  have O:Ok .tm y:=⟨by
   have:=iU ks 0 k y m c
   rwa [show nx Md.tm n (0+k)= .tm by simp[nx,K,b]]at this,dE' ks k y F c⟩
  refine⟨O,Oo,?_,B6 I c⟩;have:BlD y (0+arC n 0 (0+(k:Int))) n.b N:=λq d=>M q (wY ks 0 0 k y c q d);rw[O.bld]at this;refine this.mono ?_;unfold kb;rw[if_neg b,lz o];simp
theorem Ft.hd_args:∀(L:Nat) (x:Tr),(row x).length<=L ->Ft Q N x ->Ft Q N (headT x)/\∀y∈argsT x,Ft Q N y
 |0,x,hl,_=>by
  have:=aS x;omega
 |L+1,.mk n o,hl,h=>by
  by_cases b:n.op=6
  ·obtain⟨f,a,rfl,p,q⟩:=ms h.ok b
   have d:kidsT (.mk n [f,a])=[f,a]:=by simp[kidsT,b]
   have e:=h.kid (k:=0) (y:=f) (by rw[d];rfl);have g:=h.kid (k:=1) (y:=a) (by rw[d];rfl);have i:kb n 0=0:=by simp[kb,aY,b]
   have j:kb n 1=0:=by simp[kb,aY,b]
   rw[i]at e;rw[j]at g;simp only[Int.add_zero]at e g;have r:=hP' (.mk n [f,a]) f (by simp[d]);obtain⟨l,m⟩:=Ft.hd_args L f Oo e;rw[kc b,ke b];exact⟨l,λy c=>(List.mem_append.1 c).elim (m y) λc=>by
    obtain rfl:y=a:=by simpa using c
    exact g⟩
  ·rw[lA b,mu b]
   exact⟨h,λy c=>by cases c⟩
theorem Ft.head(h:Ft Q N x):Ft Q N (headT x):=(Ft.hd_args _ x (KJ _) h).1
theorem Ft.args(h:Ft Q N x):∀y∈argsT x,Ft Q N y:=(Ft.hd_args _ x (KJ _) h).2
theorem pY':∀(ys:List Tr) (x:Tr),Ok .tm x ->Bl x N ->(∀y∈ys,Ok .tm y/\Bl y N) ->Bl (al' x ys) N
 |[],x,_,c,_=>c
 |y::r,x,e,c,d=>by
  rw[al'];have b:=d y Od;refine pY' r _ (eF' [y] x e (by simpa using b.1)) ?_ (λz f=>d z (by simp[f]));intro q a;simp only[varsT,appN,varsK,JD]at a;rw[if_neg OO]at a;simp only[JW]at a;rcases a with a|a
  ·exact c q a
  ·exact b.2 q a
theorem HB{ys:List Tr}{x:Tr}(b:Qk Q)(c:Al Q x)(d:∀y∈ys,Al Q y):Al Q (al' x ys):=by
 intro m a;rw[bJ']at a;rcases List.mem_append.1 a with a|a
 ·obtain rfl:=(List.mem_replicate.1 a).2
  exact b.app _ (by simp[appN])
 ·rcases List.mem_append.1 a with a|a
  ·exact c m a
  ·have:∀(l:List Tr),(∀y∈l,Al Q y) ->m∈rows l ->Q m:=by
    intro l
    induction l with
    |nil=>intro _ h;simp[rows]at h
    |cons y l e=>
     intro h a;simp only[rows,JW]at a;exact a.elim (h y Od m) (e λz f=>h z (by simp[f]))
   exact this ys d a
theorem Ft.apply(c:Qk Q){ys:List Tr}(a:Ft Q N x)(b:∀y∈ys,Ft Q N y)(hl:(row (al' x ys)).length<=4096):Ft Q N (al' x ys):=
 ⟨eF' ys x a.ok λy h=>(b y h).ok,hl,pY' ys x a.ok a.bl λy h=>⟨(b y h).ok,(b y h).bl⟩,HB c a.al λy h=>(b y h).al⟩
theorem B7{op:Int}(f:op=4 \/op=5):∀(ys:List Tr) (x:Tr) (N:Int),Ok .tm x ->Bl x (N+ys.length) ->(∀(i:Nat) y,ys[i]?=some y ->Ok .tm y/\Bl y (N+i)) ->Bl (dS op ys x) N
 |[],x,N,_,g,_=>g.mono Od
 |d::r,x,N,e,g,j=>by
  obtain⟨h1,k⟩:=j 0 d rfl;have t:=B7 f r x (N+1) e (g.mono OK) (λi y l=>by
   obtain⟨a,b⟩:=j (i+1) y (by simpa using l);exact⟨a,b.mono Oo⟩)
  have m:Ok .tm (dS op r x):=wQ f r x e λz u=>by
   obtain⟨i,l⟩:=JH u;exact(j (i+1) z (by simpa using l)).1
  rw[dS];intro q c;have o:op≠1:=Oo
  have p:op≠13:=Oo
  simp only[varsT,varsK,JD,if_neg o,JW,arC,if_neg p]at c;rcases c with c|c
  ·have:=k.mono (show N+((0:Nat):Int)<=N+0 by omega)
   have s:aY ⟨op,0,0⟩ 0=0:=by rcases f with rfl|rfl<;>decide
   rw[s]at c;exact(this.mono Oo) q c
  ·have s:aY ⟨op,0,0⟩ (0+1)=1:=by rcases f with rfl|rfl<;>decide
   rw[s]at c;exact(m.bld (d:=0+1) (nb:=0) (n:=N)).2 (t.mono Oo) q c
theorem B8{op:Int}(b:Qk Q)(e:op=4 \/op=5):∀(ys:List Tr) (x:Tr),Al Q x ->(∀y∈ys,Al Q y) ->Al Q (dS op ys x)
 |[],x,a,_=>a
 |d::r,x,a,c=>by
  rw[dS,kh,my,my];refine⟨b.app _ OS,c d Od,B8 b e r x a (λz f=>c z (by simp[f])),λm hm=>by simp[rows]at hm⟩
theorem Ft.bind(e:Qk Q){op:Int}(d:op=4 \/op=5){ys:List Tr}(b:Ft Q (N+ys.length) x)(c:∀(i:Nat) y,ys[i]?=some y ->Ft Q (N+i) y)(hl:(row (dS op ys x)).length<=4096):Ft Q N (dS op ys x):=
 ⟨wQ d ys x b.ok λy h=>by
   obtain⟨i,a⟩:=JH h;exact(c i y a).ok,hl,B7 d ys x N b.ok b.bl λi y a=>⟨(c i y a).ok,(c i y a).bl⟩,B8 e d ys x b.al λy h=>by
   obtain⟨i,a⟩:=JH h;exact(c i y a).al⟩
theorem Ft.one{n:Nd}(d:aw n=true)(h3:n.op≠3)(b:n.op≠13)(h2:n.op≠2)(e:bp n=0)(a:Q n)(f:n.op=1 ->n.a<N):Ft Q N (.mk n []):=
 ⟨⟨⟨by simp[cnt,d,h3,b,h2,e],trivial⟩,by simp[gE',eN',h2]⟩,by simp[row,rows],λq a=>by
   simp only[varsT]at a;split at a
   ·rename_i g
    simp only[JJ,JZ,or_false]at a;subst a;have:=f g;simp only;omega
   ·simp[varsK]at a,λm c=>by
   simp only[row,rows,JJ,JZ,or_false]at c;subst c;exact a⟩
def varX(a:Int):Tr:=.mk ⟨1,a,0⟩ []
theorem Ft.varX(b:Qk Q){a:Int}(c:0<=a)(ha:a<N)(h1:a<=1048576):Ft Q N (varX a):=
 Ft.one (by simp[aw,aE,c,h1]) Od Od Od (by simp[bp]) (b.var _ rfl) λ_=>ha
end
open Go.Wx
def Ents(es:List MapEntry)(l:List (Int×Int×Int)):Prop:=es.map (λe=>(e.key,e.val))=l.map λt=>(Value.agg #[iV t.1,iV t.2.1],iV t.2.2)
def wZ(x y:Int):List (Int×Int×Int) ->Nat ->Option (Nat×Int)
 |[],_=>none
 |t::r,i=>if x=t.1/\y=t.2.1 then some (i,t.2.2)else wZ x y r (i+1)
def Gr(h:Array Obj)(b:Nat)(g:Lv.G):Prop:=∃es clock l,h[b]?=some (.map es clock)/\Ents es.toList l/\∀x y,g x y=(wZ x y l 0).map (·.2)
end Go.Proofs.YtjnjbghlemiklaaGreat
namespace Lv
def ki(B:Int)(g:G):Prop:=∀x y v,g x y=some v -> -B<=v/\v<=B
theorem HC{B:Int}{g:G}(h:ki B g){x y v:Int}(h1:-B<=v)(h2:v<=B):ki B (dp g x y v):=λa b u c=>by
 rcases raise_cases g x y v a b u c with d|⟨_,_,rfl⟩
 ·exact h a b u d
 ·exact⟨h1,h2⟩
def J(B:Int)(m low high:Nat)(g:G):Prop:=∀x y v,g x y=some v ->
 (-(6*B)<=v/\v<=6*B)/\((x=m \/y=m) -> -(3*B)<=v/\v<=3*B)/\((x=m/\y=m) -> -(2*B)<=v/\v<=2*B)/\(((low:Int)<x \/((low:Int)=x/\(high:Int)<=y)) -> -B<=v/\v<=B)
theorem B9{B:Int}{g:G}(b:0<=B)(h:ki B g)(m:Nat):J B m 0 0 g:=λx y v a=>by
 have:=h x y v a;refine⟨Oo,λ_=>Oo,λ_=>Oo,λ_=>this⟩
theorem HD{B:Int}{m low high:Nat}{g:G}(h:J B m low high g):J B m low (high+1) (step m low high g):=by
 rcases step_cases m low high g with ⟨a,b,r,s,e⟩|e
 ·rw[e]
  intro x y v d;obtain⟨K,t,u,o⟩:=h _ _ _ r;obtain⟨M,w,z,p⟩:=h _ _ _ s;rcases raise_cases _ _ _ _ _ _ _ d with A|⟨rfl,rfl,rfl⟩
  ·obtain⟨f,i,j,k⟩:=h x y v A
   refine⟨f,i,j,λc=>k Oo⟩
  ·have D:=t (.inr rfl)
   have E:=w (.inl rfl);refine⟨Oo,λc=>?_,λc=>?_,λc=>Oo⟩
   ·by_cases q:(high:Int)=m
    ·have l:=o (.inr ⟨rfl,Oo⟩)
     have F:=z ⟨rfl,q⟩;omega
    ·have H:(low:Int)=m:=c.resolve_right q
     have n:=p (.inr ⟨Oo,Oo⟩);have I:=u ⟨H,rfl⟩;omega
   ·have l:=o (.inr ⟨rfl,Oo⟩)
    have n:=p (.inr ⟨Oo,Oo⟩);omega
 ·rw[e]
  intro x y v d;obtain⟨f,i,j,k⟩:=h x y v d;exact⟨f,i,j,λc=>k Oo⟩
theorem HE{B:Int}{m low n:Nat}{g:G}(h:J B m low n g):J B m (low+1) 0 g:=λx y v a=>by
 obtain⟨b,c,d,e⟩:=h x y v a;exact⟨b,c,d,λf=>e Oo⟩
theorem Ca{B:Int}{m low:Nat}{g:G}(h:J B m low 0 g)(k:Nat):J B m low k (aN (step m low) k g):=
 iS (f:=step m low) (λk g=>J B m low k g) h k λ_ _ _ a=>HD a
theorem Cb{B:Int}{m n:Nat}{g:G}(h:J B m 0 0 g)(k:Nat):J B m k 0 (aN (jF n m) k g):=
 iS (f:=jF n m) (λk g=>J B m k 0 g) h k λ_ _ _ a=>HE (Ca a n)
theorem HF{B:Int}{m low high:Nat}{g:G}(h:J B m low high g){a b:Int}(ha:g low m=some a)(hb:g m high=some b):-(6*B)<=a+b/\a+b<=6*B:=by
 have c:=(h _ _ _ ha).2.1 (.inr rfl);have d:=(h _ _ _ hb).2.1 (.inl rfl);omega
theorem HG{B:Int}{m low high:Nat}{g:G}(h:J B m low high g):ki (6*B) g:=λx y v a=>(h x y v a).1
theorem HH(n:Nat):ki 1000 (j8 n):=λx y v a=>by
 obtain⟨rfl,_⟩:=(oy n n (KJ _) x y v).1 a;omega
def pw:Nat ->Int
 |0=>1000
 |m+1=>6*pw m
theorem FS':∀m,m<=17 ->0<=pw m/\6*pw m<=9000000000000000000:=by
 intro m a
 match m,a with
 |0,_=>decide
 |1,_=>decide
 |2,_=>decide
 |3,_=>decide
 |4,_=>decide
 |5,_=>decide
 |6,_=>decide
 |7,_=>decide
 |8,_=>decide
 |9,_=>decide
 |10,_=>decide
 |11,_=>decide
 |12,_=>decide
 |13,_=>decide
 |14,_=>decide
 |15,_=>decide
 |16,_=>decide
 |17,_=>decide
 |m+18,h=>omega
theorem HI{B:Int}{n m:Nat}{g:G}(a:0<=B)(h:ki B g):ki (6*B) (pass n m g):=HG (Cb (n:=n) (B9 a h m) n)
end Lv
namespace Go.Proofs.YtjnjbghlemiklaaGreat
open Go.Wx Lv
def Rw(N:Nat)(h:Array Obj)(a:Option Addr)(k len:Nat)(c:Nat ->Nat ->Value):Prop:=
 len=0 \/∃b o,a=some ⟨b,o,none⟩/\b<N/\∀i j,i<len ->j<k ->Cl h b (o+i*k+j) (c i j)
def I64(x:Int):Prop:=-9223372036854775808<=x/\x<=9223372036854775807
def HJ(N:Nat)(h:Array Obj)(a:Option Addr)(l:List Int):Prop:=Rw N h a 1 l.length (λi _=>iV (l.getD i 0))/\∀x∈l,I64 x
def Cc(N:Nat)(h:Array Obj)(a:Option Addr)(l:List Atom):Prop:=
 Rw N h a 2 l.length (λi j=>iV (if j=0 then (l.getD i default).var else (l.getD i default).add))/\∀x∈l,I64 x.var/\I64 x.add
def xa(N:Nat)(h:Array Obj)(a:Option Addr)(l:List aO):Prop:=
 Rw N h a 3 l.length (λi j=>iV (if j=0 then (l.getD i default).low else if j=1 then (l.getD i default).add else (l.getD i default).high))/\∀x∈l,I64 x.low/\I64 x.add/\I64 x.high
theorem HK{α:Type} [Inhabited α](l:List α)(k:Nat)(h:k<l.length):l.drop k=l.getD k default::l.drop (k+1):=by
 rw[List.drop_eq_getElem_cons h];simp[h]
theorem HL{h:Array Obj}{b o:Nat}{x y:Value}(c:Cl h b (o+0) x)(h1:Cl h b (o+1) y):∀j v,[x,y][j]?=some v ->Cl h b (o+j) v:=by
 intro j v a
 match j,a with
 |0,a=>simp at a;subst a;exact c
 |1,a=>simp at a;subst a;exact h1
 |j+2,a=>simp at a
def Br'(vars:Int)(os:List aO)(w:World)(e:Ending)(w':World):Prop:=
 Kp [] w w'/\match dZ vars os with
  | .error n=>e= .returned (.tuple #[.map none,iV n])
  | .ok g=>∃b,e= .returned (.tuple #[.map (some b),iV 0])/\Gr w'.heap b g/\w.heap.size<=b
theorem Kp.own{w a c:World}{b:Nat}(h:Kp [] w a)(k:Kp [b] a c)(hb:w.heap.size<=b):Kp [] w c:=
 h.trans k λx d e=>by
  have:x=b:=by simpa using d
  omega
end Go.Proofs.YtjnjbghlemiklaaGreat
