import Derived.Test.YtfjfpkkpfbadoaaGreatMf01
import Derived.Test.YtfjfpkkpfbadoaaGreatProg
import Derived.KernelRfl
import Derived.Recover
set_option linter.all false
set_option maxHeartbeats 4000000
open Go.Proofs Go.Proofs.Tryz Cd Go Go.Wx Tm
namespace Tm
section
variable{U:Type}{one:U×List Nd ->Nd ->Int ->Option (U×List Nd)}
mutual
theorem CG{G:Nat}(g:1<=G)(h:∀u l n d c b,one (u,l) n d=some (c,b) ->b.length<=l.length+G):∀(x:Tr) (d nb:Int) (u:U) (l:List Nd) (c:U) (b:List Nd),wT one cK x d nb (u,l)=some (c,b) ->b.length<=l.length+G*(row x).length
 | .mk n ks,d,nb,u,l,c,b,e=>by
  simp only[wT]at e;split at e
  ·cases e
  ·rename_i i a
   obtain⟨j,f⟩:=i;have k:f.length<=l.length+G:=by
    split at a
    ·simp only[cK,QZ,Prod.mk.injEq]at a
     rw[<- a.2];simp;omega
    ·exact h _ _ _ _ _ _ a
   have m:=CH g h ks n nb 0 d j f c b e;simp only[row,JV,Nat.mul_add];omega
theorem CH{G:Nat}(f:1<=G)(h:∀u l n d b a,one (u,l) n d=some (b,a) ->a.length<=l.length+G):∀(ks:List Tr) (n:Nd) (nb k d:Int) (u:U) (l:List Nd) (b:U) (a:List Nd),wK one cK ks n nb k d (u,l)=some (b,a) ->a.length<=l.length+G*(rows ks).length
 |[],n,nb,k,d,u,l,b,a,e=>by
  simp only[wK,QZ,Prod.mk.injEq]at e;rw[e.2];simp[rows]
 |x::r,n,nb,k,d,u,l,b,a,e=>by
  simp only[wK]at e;split at e
  ·cases e
  ·rename_i j c
   obtain⟨g,i⟩:=j;have m:=CG f h x _ _ u l g i c;have o:=CH f h r n nb (k+1) d g i b a e;simp only[rows,JK,Nat.mul_add];omega
end
theorem xr{x:Tr}(h:x.n.op≠13)(d nb a:Int)(s:U×List Nd):wT one cK x d nb s=wT one cK x d a s:=by
 obtain⟨n,c⟩:=x;simp only[Tr.n]at h;simp only[wT];split
 ·rfl
 ·rename_i e _
  have:∀(r:List Tr) (k:Int) (s:U×List Nd),wK one cK r n nb k d s=wK one cK r n a k d s:=by
   intro r
   induction r with
   |nil=>intros;rfl
   |cons y r b=>
    intro k s;simp only[wK,mr h,b]
  exact this _ _ _
end
theorem eS{n:Nd}{c:Nat}(h:cnt .tm n=some c):aw n=true/\n.op≠3/\n.op≠13/\c=if n.op=2 then n.b.toNat else (bw n).toNat:=by
 simp only[cnt]at h;split at h
 ·rename_i q
  exact⟨q.1,q.2.1,q.2.2,(JB h).symm⟩
 ·cases h
theorem oL{n:Nd}{c:Nat}(h:cnt .fn n=some c):aw n=true/\n.op=13/\c=2:=by
 simp only[cnt]at h;split at h
 ·rename_i q
  exact⟨q.2,q.1,(JB h).symm⟩
 ·cases h
theorem Ok.tm{n:Nd}{ks:List Tr}(h:Ok .tm (.mk n ks)):aw n=true/\n.op≠3/\n.op≠13:=by
 obtain⟨d,_⟩:=h.kids;obtain⟨a,b,c,_⟩:=eS d;exact⟨a,b,c⟩
theorem Ok.fn{x:Tr}(h:Ok .fn x):∃f ty bo,x= .mk f [ty,bo]/\f.op=13/\aw f=true/\Ok .tm ty/\Ok .tm bo:=by
 obtain⟨f,d⟩:=x;obtain⟨e,g,i⟩:=h.kids;obtain⟨a,b,c⟩:=oL e
 match d,c with
 |[ty,bo],_=>
  obtain⟨j,k,l⟩:=kt g i;obtain⟨m,_,_⟩:=kt k l;exact⟨f,ty,bo,rfl,b,a,j,m⟩
theorem qm':∀{ks:List Tr} {n:Nd},n.op=2 ->bH cnt nx ks n .tm 0 ->(rows ks).length=ks.length
 |[],n,_,_=>rfl
 | .mk m l::r,n,h2,h=>by
  obtain⟨h3,h4⟩:=h;have a:cnt .am m=some l.length:=by
   have:=h3.1
   rwa [show nx Md.tm n 0= .am by simp[nx,h2]]at this
  have b:l=[]:=by
   simp only[cnt]at a;split at a
   ·exact List.length_eq_zero_iff.1 (JB a).symm
   ·cases a
  subst b;have:=qm' h2 (xq 0 h4);simp[rows,row,this]
theorem dn{n:Nd}(h:aw n=true):0<=n.b/\n.b<=1000/\0<=n.a/\n.a<=1048576:=by
 simp only[aw]at h
 repeat' split at h
 all_goals first|(simp[aI]at h;omega)|contradiction
theorem xt(n:Nd)(k:Int):0<=bi n k/\bi n k<=1:=by
 unfold bi;split<;>omega
section
variable(h:Int ->Nd ->Option Tr)
mutual
def gT:Tr ->Int ->Int ->Option Tr
 | .mk n ks,d,nb=>if n.op=1 then h d n else match gK ks n nb 0 d with
  |none=>none
  |some ks'=>some (.mk n ks')
def gK:List Tr ->Nd ->Int ->Int ->Int ->Option (List Tr)
 |[],_,_,_,_=>some []
 |x::r,n,nb,k,d=>match gT x (d+arC n nb k) n.b with
  |none=>none
  |some y=>match gK r n nb (k+1) d with
   |none=>none
   |some r'=>some (y::r')
end
def iA{U:Type}(s:U×List Nd)(n:Nd)(d:Int):Option (U×List Nd):=if n.op=1 then match h d n with
  |none=>none
  |some y=>some (s.1,s.2++row y)
 else some (s.1,s.2++[n])
end
section
variable{h:Int ->Nd ->Option Tr}{U:Type}
theorem pG{n:Nd}{s:Md}{c:Nat}(hc:cnt s n=some c)(h1:n.op=1):c=0:=by
 cases s with
 |tm=>
  obtain⟨_,_,_,e⟩:=eS hc;rw[e];simp[h1,bw]
 |fn=>
  obtain⟨_,e,_⟩:=oL hc;omega
 |am=>
  simp only[cnt]at hc;split at hc
  ·rename_i q
   omega
  ·cases hc
mutual
theorem GM':∀(x:Tr) (s:Md) (d nb:Int) (u:U) (l:List Nd),okT cnt nx x s ->wT (iA h) cK x d nb (u,l)=match gT h x d nb with
  |none=>none
  |some y=>some (u,l++row y)
 | .mk n ks,s,d,nb,u,l,b=>by
  obtain⟨hc,c⟩:=b
  by_cases a:n.op=1
  ·have:ks=[]:=List.length_eq_zero_iff.1 (pG hc a)
   subst this;simp only[wT,gT,iA,a,if_true];rw[KY UO];cases h d n with
   |none=>rfl
   |some y=>simp[wK]
  ·simp only[wT,gT,iA,KY a,cK]
   have e:(if n.op=3 \/n.op=13 then some (u,l++[n])else some (u,l++[n]))=some (u,l++[n]):=by split<;>rfl
   rw[e];simp only;rw[wK_g ks n s nb 0 d 0 u (l++[n]) c];cases gK h ks n nb 0 d with
   |none=>rfl
   |some f=>simp[row]
theorem wK_g:∀(ks:List Tr) (n:Nd) (s:Md) (nb k d:Int) (j:Nat) (u:U) (l:List Nd),bH cnt nx ks n s j ->wK (iA h) cK ks n nb k d (u,l)=match gK h ks n nb k d with
  |none=>none
  |some a=>some (u,l++rows a)
 |[],n,s,nb,k,d,j,u,l,_=>by simp[wK,gK,rows]
 |x::r,n,s,nb,k,d,j,u,l,b=>by
  obtain⟨c,hr⟩:=b;simp only[wK,gK];rw[GM' x (nx s n j) _ _ u l c];cases gT h x (d+arC n nb k) n.b with
  |none=>rfl
  |some y=>
   simp only;rw[wK_g r n s nb (k+1) d (j+1) u (l++row y) hr];cases gK h r n nb (k+1) d with
   |none=>rfl
   |some e=>simp[rows,List.append_assoc]
end
mutual
theorem xu(j:∀d n y,aw n=true ->n.op=1 ->h d n=some y ->Ok .tm y):∀(x:Tr) (s:Md) (d nb:Int) (y:Tr),Ok s x ->gT h x d nb=some y ->Ok s y/\(x.n.op≠1 ->y.n=x.n)
 | .mk n ks,s,d,nb,y,k,e=>by
  obtain⟨hc,l,hi⟩:=k.kids
  by_cases b:n.op=1
  ·simp only[gT,b,if_true]at e
   have c:s= .tm:=by
    cases s with
    |tm=>rfl
    |fn=>
     obtain⟨_,e,_⟩:=oL hc;omega
    |am=>
     simp only[cnt]at hc;split at hc
     ·rename_i q
      omega
     ·cases hc
   subst c;obtain⟨m,_⟩:=eS hc;exact⟨j d n y m b e,λq=>absurd b q⟩
  ·simp only[gT,KY b]at e
   split at e
   ·cases e
   rename_i f g;obtain rfl:=JB e;obtain⟨o,p,r,t⟩:=CI j ks n s nb 0 d 0 f l hi g;refine⟨⟨⟨by rw[hc,o],p⟩,?_⟩,λ_=>rfl⟩;simp only[gF',r,Bool.and_true]
   by_cases i:n.op=2
   ·have a:=k.2
    simp only[gF',KX i,Bool.and_eq_true]at a ⊢;have c:nx s n 0= .am:=by
     cases s with
     |tm=>simp[nx,i]
     |fn=>
      obtain⟨_,e,_⟩:=oL hc;omega
     |am=>rfl
    exact t c (-1) a.1
   ·simp[i]
theorem CI(o:∀d n y,aw n=true ->n.op=1 ->h d n=some y ->Ok .tm y):∀(ks:List Tr) (n:Nd) (s:Md) (nb k d:Int) (j:Nat) (a:List Tr),bH cnt nx ks n s j ->eV' ks=true ->gK h ks n nb k d=some a ->ks.length=a.length/\bH cnt nx a n s j/\eV' a=true/\(nx s n 0= .am ->∀b,rT' b ks=true ->rT' b a=true)
 |[],n,s,nb,k,d,j,a,_,_,e=>by
  simp only[gK,QZ]at e;subst e;exact⟨rfl,trivial,rfl,λ_ _ h=>h⟩
 |x::r,n,s,nb,k,d,j,a,u,hi,e=>by
  obtain⟨p,hr⟩:=u;obtain⟨v,w⟩:=oK hi;simp only[gK]at e;split at e
  ·cases e
  rename_i y z;split at e
  ·cases e
  rename_i A f;obtain rfl:=JB e;obtain⟨⟨B,D⟩,E⟩:=xu o x (nx s n j) _ _ y ⟨p,v⟩ z;obtain⟨F,H,I,K⟩:=CI o r n s nb (k+1) d (j+1) A hr w f;refine⟨by simp[F],⟨B,H⟩,by simp[eV',D,I],λt b g=>?_⟩;simp only[rT',Bool.and_eq_true,decide_eq_true_eq]at g ⊢;have i:x.n.op≠1:=by
   obtain⟨m,l⟩:=x;have c:=p.1;rw[show nx s n j= .am by rw[<- t];cases s<;>rfl]at c;simp only[cnt]at c;split at c
   ·rename_i q
    simp only[Tr.n];omega
   ·cases c
  rw[E i];exact⟨g.1,K t _ g.2⟩
end
end
def fE(by_ fr:Int)(d:Int)(n:Nd):Option Tr:=if fr+d<=n.a then (if by_>1048576-n.a then none else some (.mk {n with a:=n.a+by_} []))else some (.mk n [])
def ln(x:Tr)(by_ fr:Int):Option Tr:=gT (fE by_ fr) x 0 0
theorem oN{n:Nd}(h1:n.op=1)(ha:0<=n.a)(a:n.a<=1048576)(hb:n.b=0):Ok .tm (.mk n []):=by
 refine⟨⟨?_,trivial⟩,by simp[gF',eV',h1]⟩;have:aw n=true:=by simp[aw,h1,aI,ha,a,hb]
 simp[cnt,this,h1,bw]
theorem xv{by_ fr d:Int}{n:Nd}{y:Tr}(hb:0<=by_)(b:aw n=true)(h1:n.op=1)(e:fE by_ fr d n=some y):Ok .tm y:=by
 have a:aI n.a 0 1048576=true/\n.b=0:=by simpa[aw,h1]using b
 have:=dI.1 a.1;simp only[fE]at e;split at e
 ·split at e
  ·cases e
  ·obtain rfl:=JB e
   exact oN (by simpa using h1) Us Us a.2
 ·obtain rfl:=JB e
  exact oN h1 this.1 this.2 a.2
theorem ID{x y:Tr}{by_ fr:Int}(hb:0<=by_)(a:Ok .tm x)(e:ln x by_ fr=some y):Ok .tm y:=
 (xu (λd n y b c e=>xv hb b c e) x .tm 0 0 y a e).1
end Tm
namespace Go.Q
def τ:Tau where
 tab:=[(7,[(0,1,false),(1,1,false),(2,1,false),(3,1,false)],[0,0,1,7]),(8,[(0,1,false),(1,1,false),(2,1,false),(3,1,false)],[0,0,1,7]),(13,[(0,1,false),(1,1,false)],[9,11]),(14,[(0,1,false),(1,1,false)],[9,11]),(18,[(0,1,false)],[3]),(19,[(0,1,false)],[3]),(25,[(0,1,false),(1,1,false),(2,1,false),(3,1,false),(4,1,false)],[0,2,2,0,2]),(26,[(0,1,false),(1,1,false),(2,1,false),(3,1,false),(4,1,false)],[0,2,2,0,2]),(42,[(0,1,false),(1,1,false),(2,1,false),(3,1,false),(4,1,false),(5,1,false),(6,1,false)],[0,2,2,2,2,2,2]),(43,[(0,1,false),(1,1,false),(2,1,false),(3,1,false),(4,1,false),(5,1,false),(6,1,false)],[0,2,2,2,2,2,2]),(46,[(0,1,false),(1,1,false),(2,1,false)],[0,0,0]),(47,[(0,1,false),(1,1,false),(2,1,false)],[0,0,0]),(48,[(0,1,false),(1,1,false)],[2,2]),(49,[(0,1,false),(1,1,false)],[2,2]),(59,[(0,3,true),(3,1,false),(4,1,false),(5,1,false)],[0,0,0,2,2,2]),(60,[(0,3,true),(3,1,false),(4,1,false),(5,1,false)],[0,0,0,2,2,2]),(64,[(0,5,true),(5,1,false),(6,1,false),(7,1,false)],[0,2,2,0,2,0,0,0]),(65,[(0,5,true),(5,1,false),(6,1,false),(7,1,false)],[0,2,2,0,2,0,0,0]),(72,[(0,1,false),(1,1,false),(2,1,false)],[0,0,0]),(73,[(0,1,false),(1,1,false),(2,1,false)],[0,0,0]),(75,[(0,1,false),(1,1,false)],[0,0]),(76,[(0,1,false),(1,1,false)],[0,0]),(90,[(0,1,false),(1,1,false)],[3,2]),(91,[(0,1,false),(1,1,false)],[3,2]),(96,[(0,5,true),(5,1,false),(6,1,false)],[0,2,2,0,2,0,0]),(97,[(0,5,true),(5,1,false),(6,1,false)],[0,2,2,0,2,0,0]),(104,[(0,1,false),(1,1,false)],[2,2]),(105,[(0,1,false),(1,1,false)],[2,2]),(115,[(0,5,true),(5,1,false),(6,1,false)],[0,2,2,0,2,0,0]),(116,[(0,5,true),(5,1,false),(6,1,false)],[0,2,2,0,2,0,0]),(153,[(0,1,false),(1,1,false)],[0,0]),(154,[(0,1,false),(1,1,false)],[0,0]),(176,[(0,1,false)],[0]),(177,[(0,1,false)],[0]),(179,[(0,5,true),(5,1,false)],[0,2,2,0,2,0]),(180,[(0,5,true),(5,1,false)],[0,2,2,0,2,0]),(191,[(0,1,false),(1,1,false)],[0,0]),(192,[(0,1,false),(1,1,false)],[0,0]),(230,[(0,1,false)],[0]),(231,[(0,1,false)],[0]),(239,[(0,1,false),(1,1,false)],[2,2]),(240,[(0,1,false),(1,1,false)],[2,2]),(247,[(0,5,true),(5,1,false)],[0,2,2,0,2,2]),(248,[(0,5,true),(5,1,false)],[0,2,2,0,2,2]),(264,[(0,5,true),(5,1,false),(6,1,false)],[0,2,2,0,2,2,0]),(265,[(0,5,true),(5,1,false),(6,1,false)],[0,2,2,0,2,2,0]),(273,[(0,5,true),(5,1,false),(6,1,false),(7,1,false)],[0,2,2,0,2,2,0,0]),(274,[(0,5,true),(5,1,false),(6,1,false),(7,1,false)],[0,2,2,0,2,2,0,0]),(310,[(0,1,false),(1,1,false),(2,1,false),(3,1,false)],[3,3,3,9]),(311,[(0,1,false),(1,1,false),(2,1,false),(3,1,false)],[3,3,3,9]),(321,[(0,1,false),(1,1,false),(2,1,false),(3,1,false),(4,1,false),(5,1,false),(6,1,false),(7,1,false),(8,1,false),(9,1,false),(10,1,false)],[11,11,6,7,7,7,7,5,3,12,12]),(322,[(0,1,false),(1,1,false),(2,1,false),(3,1,false),(4,1,false),(5,1,false),(6,1,false),(7,1,false),(8,1,false),(9,1,false),(10,1,false)],[11,11,6,7,7,7,7,5,3,12,12])]
 ones:=[(2,0),(3,0),(4,1),(5,7),(6,7),(9,9),(10,9),(11,9),(12,11),(15,3),(16,3),(17,3),(20,8),(21,12),(22,2),(23,2),(24,2),(29,0),(38,2),(39,2),(40,2),(41,2),(58,2),(63,3),(66,3),(88,3),(89,2),(99,2),(100,2),(124,2),(132,3),(163,4),(164,4),(171,4),(181,2),(198,2),(205,2),(212,4),(234,2),(238,3),(249,2),(250,0),(263,11),(272,3),(279,0),(286,6),(288,11),(296,11),(300,3),(302,2),(305,3),(315,7),(316,7),(318,3),(319,12),(320,12),(323,3),(1,5),(27,5),(28,5),(31,5),(33,5),(34,5),(35,5),(36,5),(37,5),(44,5),(45,5),(50,5),(51,5),(52,5),(53,5),(54,5),(55,5),(56,5),(57,5),(61,5),(62,5),(67,5),(68,5),(69,5),(70,5),(71,5),(74,5),(77,5),(79,5),(80,5),(81,5),(82,5),(83,5),(85,5),(87,5),(92,5),(93,5),(94,5),(95,5),(98,5),(102,5),(103,5),(106,5),(107,5),(108,5),(109,5),(111,5),(112,5),(113,5),(114,5),(117,5),(118,5),(119,5),(120,5),(121,5),(122,5),(123,5),(126,5),(127,5),(128,5),(130,5),(131,5),(133,5),(134,5),(136,5),(137,5),(138,5),(139,5),(140,5),(141,5),(143,5),(144,5),(145,5),(146,5),(147,5),(148,5),(149,5),(150,5),(151,5),(152,5),(155,5),(156,5),(157,5),(158,5),(160,5),(161,5),(162,5),(166,5),(167,5),(168,5),(169,5),(170,5),(172,5),(174,5),(175,5),(182,5),(183,5),(184,5),(185,5),(186,5),(187,5),(189,5),(190,5),(193,5),(194,5),(195,5),(196,5),(197,5),(199,5),(200,5),(201,5),(203,5),(204,5),(206,5),(207,5),(208,5),(210,5),(211,5),(213,5),(214,5),(215,5),(216,5),(217,5),(218,5),(219,5),(220,5),(221,5),(222,5),(223,5),(224,5),(225,5),(227,5),(228,5),(229,5),(232,5),(233,5),(235,5),(236,5),(237,5),(241,5),(242,5),(243,5),(244,5),(246,5),(251,5),(253,5),(255,5),(256,5),(257,5),(258,5),(259,5),(260,5),(261,5),(262,5),(267,5),(268,5),(269,5),(270,5),(271,5),(275,5),(276,5),(277,5),(278,5),(281,5),(282,5),(283,5),(284,5),(285,5),(287,5),(289,5),(290,5),(291,5),(292,5),(293,5),(294,5),(295,5),(297,5),(298,5),(299,5),(301,5),(303,5),(304,5),(306,5),(307,5),(308,5),(309,5),(317,5)]
 slcs:=[(22,73,3,24),(23,43,7,152),(24,76,2,16),(38,47,3,24),(39,47,3,24),(40,39,1,24),(41,49,2,48),(58,60,6,96),(89,105,2,48),(99,154,2,16),(100,154,2,16),(124,3,1,8),(181,105,2,48),(198,3,1,8),(205,169,1,8),(234,100,1,24),(249,250,1,8),(302,40,1,24)]
theorem τok:aU prog τ:=Ic UD
open Go.Wx Cd Tm
abbrev jM(n:Nd):Value:=.agg #[iV n.op,iV n.a,iV n.b]
def opI:Option Nat ->Int
 |some n=>n
 |none=>-1
section
variable{C:Mem}
def pH(t:List Nd)(i:Int):Int:=if i<0 then -1 else opI (endS t .tm i.toNat)
theorem rj(t:List Nd)(p:Nat):pH t (p:Int)=opI (endS t .tm p):=by
 unfold pH;rw[KY Uo]
 rfl
theorem nA{n:Nd}(h:aw n=true):0<=bw n/\bw n<=18:=by
 unfold bw;split
 ·omega
 split
 ·omega
 split
 ·rename_i a
  have:aI n.b 0 16=true:=by simp[aw,a]at h;exact h.2
  have:=dI.1 this;omega
 split
 ·rename_i b
  have:aI n.b 1 4=true:=by simp[aw,b]at h;exact h.1
  have:=dI.1 this;omega
 omega
def fF(t:List Nd):Int:=if t.length>4096 then 9 else if (ny t).isSome then 0 else 8
end
end Go.Q
namespace Go.Wx
def xw(md:Region.Mode)(ops:Array Oper):Nat ->Nat ->Nat ->Bool
 |0,j,k=>match ops[j]? with
  |some o=>o.after.any λe=>Region.binds md e && e.on==k
  |none=>false
 |d+1,j,k=>match ops[j]? with
  |some o=>o.after.any λe=>Region.binds md e && (e.on==k||xw md ops d e.on k)
  |none=>false
def IE(md:Region.Mode)(ops:Array Oper)(j:Nat):Bool:=
 match ops[j]? with
 |some o=>(List.range ops.size).all λk=>(k==j||o.after.any λe=>Region.binds md e && (e.on==k||xw md ops 12 e.on k))||xw md ops 12 k j
 |none=>false
def ClsV(md:Region.Mode)(ops:Array Oper)(listed:Array Bool):Prop:=∀(k:Nat) o,ops[k]?=some o ->listed.getD k false=true ->∀e∈o.after,Region.binds md e=true ->listed.getD e.on false=true
theorem CJ{a:Array Bool}{j x:Nat}(h:a.getD x false=true):(a.setIfInBounds j true).getD x false=true:=by
 by_cases b:j=x
 ·subst b
  by_cases c:j<a.size
  ·simp[c]
  ·simp[c]at h
 ·rw[getD_set_ne false b]
  exact h
theorem ClsV.set{f:Region.Mode}{b:Array Oper}{a:Array Bool}{j:Nat}(h:ClsV f b a)(p:j∈Region.ready f b a):ClsV f b (a.setIfInBounds j true):=by
 intro k o g l e m n;obtain⟨q,r,i,c⟩:=mem_ready.1 p
 by_cases d:j=k
 ·subst d
  rw[i]at g;obtain rfl:=JB g;exact CJ (c e m n)
 ·rw[getD_set_ne false d]at l
  exact CJ (h k o g l e m n)
def xx(P:Program)(md:Region.Mode)(ops:Array Oper)(Q:Exit ->Act ->World ->Prop)(S:World ->Prop):Nat ->Array Bool ->Act ->World ->Prop
 |0,listed,a,w=>Region.ready md ops listed=[]/\Q .normal a w
 |fuel+1,listed,a,w=>(Region.ready md ops listed=[] ->Q .normal a w)/\
  ∀i∈Region.ready md ops listed,wpOp P ops Q i (λa' w'=>(S w' \/IE md ops i=true)/\xx P md ops Q S fuel (listed.setIfInBounds i true) a' w') a w
@[irreducible] def EvAnyV (P:Program) (n:Nat) (S:World ->Prop) (l:List Oper) (K:Exit ->St ->World ->Prop) (fuel:Nat) (listed:Array Bool) (s:St) (w:World):Prop:=
 ClsV .any l.toArray listed ->∀a,Fr n a s ->xx P .any l.toArray (xn n K) S fuel listed a w
end Go.Wx
namespace Go.Q
abbrev pt(b:Nat):Value:=.pointer (some ⟨b,0,none⟩)
abbrev rl(e:Int):List PanicEntry:=[{v:=.iface 231 (.agg #[iV e]),recovered:=false}]
structure Wk where
 bt:Nat
 ba:Nat
 bo:Nat
 bu:Nat
 bs:Nat
 Tt:Nat
 Ta:Nat
 To:Nat
 Tu:Nat
 Ts:Nat
 ta:Option Addr
 cap:Nat
 t:List Nd
 f:Nat
 caps:Array Value
 UB:List Nat
 lo:Nat
def Wk.clo(k:Wk):Value:=.func (.func 205) #[] #[pt k.bt,pt k.ba,pt k.bo,pt k.bu,pt k.bs]
def Wk.bl(k:Wk):List Nat:=[k.bt,k.ba,k.bo,k.bu,k.bs]++k.UB
structure Wk.Ok(k:Wk)(C:Mem):Prop where
 old:∀b o v,C b o v ->b<k.lo
 row:Sl rNd C k.ta k.t
 cap:k.t.length<=k.cap
 low:∀b∈k.bl,k.lo<=b
 nd:k.bl.Nodup
structure Wk.St(k:Wk)(C:Mem)(w:World)(p:Nat)(v:Value)(l:List Nd):Prop where
 sub:Sub C w
 bt:Bk w.heap k.bt [.slice k.ta k.t.length k.cap] k.Tt
 ba:Bk w.heap k.ba [iV (p:Int)] k.Ta
 bo:Bk w.heap k.bo [.func (.func k.f) #[] k.caps] k.To
 bu:Bk w.heap k.bu [v] k.Tu
 bs:Bk w.heap k.bs [k.clo] k.Ts
 own:Own rNd 47 k.lo w v l
 far:∀g,v.ownBlock=some g ->g ∉ k.bl
 ub:∀b∈k.UB,b<w.heap.size
def xy(v v':Value)(w:World):Prop:=∀g,v'.ownBlock=some g ->v.ownBlock=some g \/w.heap.size<=g
def Wk.X(k:Wk)(v:Value):List Nat:=k.ba::k.bu::(v.ownBlock.toList++k.UB)
end Go.Q
namespace Go.Wx
def IF(j:IntKind)(B:Nat):Rd Nat where
 sz:=1
 den _ cs x:=cs=[.int j (x:Int)]/\x<B
 len:=by rintro _ cs x ⟨rfl,_⟩;rfl
 mono:=by rintro _ _ cs x _ h;exact h
 one:=by rintro _ cs x ⟨rfl,_⟩ u hu;simp at hu;subst hu;rfl
def IG(j:IntKind)(h:Array Obj)(b:Nat)(l:List Nat)(T:TypeId):Prop:=Bk h b (l.map λx:Nat=>Value.int j (x:Int)) T
def endP(n:Nat)(K:Exit ->St ->World ->Prop)(d:List Deferred):Exit ->Act ->World ->Prop:=λe a w=>(e= .normal/\lift n K .normal a w) \/∃c,e= .panic c/\a.tmps.size=n/\a.defers=d/\K (.panic c) ⟨[],d⟩ w
theorem CK{P:Program}{b:Array Oper}{Q:Exit ->Act ->World ->Prop}{i:Nat}{o:Oper}{k:Act ->World ->Prop}{a:Act}{w:World}(hi:b[i]?=some o)
  (h:wpList P b (λe l w'=>(e= .normal/\k l w') \/(∃c,e= .panic c/\Q (.panic c) l w')) [o] a w):wpOp P b Q i k a w:=by
 unfold wpOp;simp only[hi];unfold wpList at h;split at h
 ·rename_i m
  rw[KX m];rcases h with h|⟨_,l,w',h⟩
  ·left
   unfold Oper.wp at *
   generalize (execOp a.eval o).run P w=r at *
   cases r with
   |ok x w'=>
    cases x<;>simp only[Oper.upon,wpList]at h ⊢
    case value v=>rcases h with ⟨_,h⟩|⟨_,h,_⟩;exact h;cases h
    case skip=>rcases h with ⟨_,h⟩|⟨_,h,_⟩;exact h;cases h
    case defer d=>rcases h with ⟨_,h⟩|⟨_,h,_⟩;exact h;cases h
    case enter f j=>
     refine Calls.mono h λe n g=>?_;cases e with
     |returned u=>rcases g with ⟨_,h⟩|⟨_,h,_⟩;exact h;cases h
     |panicked c=>
      rcases g with ⟨h,_⟩|⟨q,h,p⟩
      ·cases h
      ·cases h
       exact p
     |outgrown=>
      obtain⟨_,_,g⟩:=g;rcases g with ⟨h,_⟩|⟨_,h,_⟩<;>cases h
    case row row j=>exact Rows.mono h λu n g=>by rcases g with ⟨_,h⟩|⟨_,h,_⟩;exact h;cases h
   |halt x w'=>
    cases x<;>simp only[Oper.upon]at h ⊢
    case panic v=>
     rcases h with ⟨h,_⟩|⟨q,h,p⟩
     ·cases h
     ·cases h
      exact p
  ·rcases h with ⟨h,_⟩|⟨_,h,_⟩<;>cases h
 ·rename_i m
  rw[KY m];simp only[wpList]at h;rcases h with ⟨_,h⟩|⟨_,h,_⟩
  ·exact h
  ·cases h
@[irreducible] def EvAnyP (P:Program) (n:Nat) (S:World ->Prop) (l:List Oper) (K:Exit ->St ->World ->Prop) (d:List Deferred) (fuel:Nat) (listed:Array Bool) (s:St) (w:World):Prop:=
 ClsV .any l.toArray listed ->∀a,Fr n a s ->xx P .any l.toArray (endP n K d) S fuel listed a w
end Go.Wx
namespace Go.Q
section
variable{σ:Type}
def xz(k:Wk)(U:World ->σ ->Prop)(er:Int)(w:World)(v:Value):Option (σ×List Nd) ->Ending ->World ->Prop
 |some s,e,w'=>∃v',e= .returned v'/\Own rNd 47 k.lo w' v' s.2/\U w' s.1/\Kp (v.ownBlock.toList++k.UB) w w'/\xy v v' w
 |none,e,w'=>e= .panicked (rl er)/\Kp (v.ownBlock.toList++k.UB) w w'
def Wk.One(k:Wk)(C:Mem)(U:World ->σ ->Prop)(one:σ×List Nd ->Nd ->Int ->Option (σ×List Nd))(M:Nat)(er:Int):Prop:=
 ∀(w:World) (v:Value) (u:σ) (l:List Nd) (n:Nd) (d:Nat),I64 n.op ->I64 n.a ->I64 n.b ->aw n=true ->d<=100000 ->l.length<=M ->Sub C w ->Own rNd 47 k.lo w v l ->(∀g,v.ownBlock=some g ->g ∉ k.bl) ->U w u ->
  dO prog k.f/\Calls prog k.f (#[]++[v,jM n,iV (d:Int)].toArray++k.caps) w (xz k U er w v (one (u,l) n d))
def CL(k:Wk)(C:Mem)(U:World ->σ ->Prop)(er:Int)(w:World)(v:Value)(q:Nat):Option (σ×List Nd) ->Ending ->World ->Prop
 |some s,e,w'=>∃v',e= .returned (.tuple #[])/\k.St C w' q v' s.2/\U w' s.1/\Kp (k.X v) w w'/\xy v v' w
 |none,e,w'=>e= .panicked (rl er)/\Kp (k.X v) w w'
theorem CM{t r:List Nd}{p:Nat}{n:Nd}(h:t.drop p=n::r):t[p]?=some n/\p<t.length/\t.drop (p+1)=r:=by
 have a:p<t.length:=by
  rcases Nat.lt_or_ge p t.length with b|b
  ·exact b
  ·rw[JY b]at h;cases h
 obtain⟨x,c,d⟩:=az a;rw[d]at h;injection h with b e
 subst b;exact⟨c,a,e⟩
end
end Go.Q
namespace Go.Wx
def lv(P:Program)(rs:List ResultVar)(R:Ending ->World ->Prop)(u:FrameMode)(s:St)(w:World):Prop:=
 ∃fv cap dargs f args,s.d=[{target:=.fn fv cap,args:=dargs}]/\u≠ .run/\(invoke (.fn fv cap) dargs).run P w= .ok (.enter f args) w/\
  CallsD P f args u w λe u' w'=>(∃v,e= .returned v)/\settle u'= .returning/\kr P s rs w' λvs=>R (.returned (one vs)) w'
def rm(P:Program)(rs:List ResultVar)(R:Ending ->World ->Prop):Exit ->St ->World ->Prop
 | .normal,s,w=>lv P rs R .returning s w
 | .ret,s,w=>lv P rs R .returning s w
 | .panic ch,s,w=>lv P rs R (.panicking ch) s w
 |_,_,_=>False
theorem xA{P:Program}{fn:Func}{R:Ending ->World ->Prop}{u:FrameMode}{s:St}{w:World}{a:Act}{n:Nat}(d:Fr n a s)(h:lv P fn.results.toList R u s w):Leaves P fn a.tmps R a.defers u w:=by
 obtain⟨r,i,c,f,g,j,k,l,m⟩:=h;rw[d.defers,j];refine leaves_cons k l (m.mono ?_);rintro e t x ⟨⟨v,rfl⟩,b,o⟩;obtain⟨y,p,q⟩:=ra d o;simp only[b];exact⟨_,p,q⟩
theorem sT':∀{l:List (Nat×Value)} {t:Nat} {v:Value},get l t=some v ->(t,v)∈l
 |[],t,v,h=>by simp[B1]at h
 |(i,u)::r,t,v,h=>by
  simp only[eQ]at h;cases hb:Nat.beq i t with
  |true=>
   rw[hb]at h;have e:=QJ hb;subst e;have:u=v:=by simpa using h
   subst this;exact List.mem_cons_self
  |false=>
   rw[hb]at h;exact List.mem_cons_of_mem _ (sT' h)
theorem oO{n:Nat}{a:Act}{l:List (Nat×Value)}(h1:a.tmps.size=n)(h2:a.defers=[])(h:∀q∈l,a.tmps[q.1]?=some q.2):Fr n a ⟨l,[]⟩:=
 ⟨h1,h2,λt v b=>h _ (sT' b)⟩
theorem ue{P:Program}{fn:Func}{b:Frame}{cs:List Frame}{R:Ending ->FrameMode ->World ->Prop}{u:FrameMode}{n:Nat}{a:Act}{s:St}{w:World}(c:Fr n a s)(d:s.d=[])(hr:fn.results= #[])(e:b.mode=u)(h:R (.returned (.tuple #[])) u w):
  bodyPostS P fn b cs R .normal a (b::cs) w:=by
 refine⟨c.defers.trans d,u,?_,.tuple #[],?_,h⟩
 ·subst e;rfl
 ·simp[results,hr]
theorem xB{P:Program}{fn:Func}{b:Frame}{cs:List Frame}{R:Ending ->FrameMode ->World ->Prop}{u:FrameMode}{n:Nat}{a:Act}{s:St}{w:World}(c:Fr n a s)(d:s.d=[])(hr:fn.results= #[])(h:R (.returned (.tuple #[])) u w):
  bodyPostS P fn b cs R .normal a ({b with mode:=u}::cs) w:=by
 refine⟨c.defers.trans d,u,rfl,.tuple #[],?_,h⟩;simp[results,hr]
end Go.Wx
namespace Go.Q
section
variable{σ:Type}
def CN(lo:Nat)(UB:List Nat)(U:World ->σ ->Prop)(er:Int)(w:World)(v:Value):Option (σ×List Nd) ->Ending ->World ->Prop
 |some s,e,w'=>∃v',e= .returned (.tuple #[v',iV 0])/\Own rNd 47 lo w' v' s.2/\U w' s.1/\Kp (v.ownBlock.toList++UB) w w'/\xy v v' w
 |none,e,w'=>e= .returned (.tuple #[.slice none 0 0,iV er])/\Kp (v.ownBlock.toList++UB) w w'
end
def IH(x:Tr)(w w':World)(v:Value):Prop:=∃a c,v= .slice a (row x).length c/\Sl rNd (New w.heap.size w') a (row x)/\(row x).length<=c
def CO(bf bb:Nat)(fr by_:Int)(w:World)(_:Unit):Prop:=Bk w.heap bf [iV fr] 3/\Bk w.heap bb [iV by_] 3
theorem xC{U:Type}{h:Int ->Nd ->Option Tr}{G:Nat}(g:1<=G)(c:∀d n y,h d n=some y ->(row y).length<=G):∀(u:U) l n d b a,iA h (u,l) n d=some (b,a) ->a.length<=l.length+G:=by
 intro u l n d b a e;simp only[iA]at e;split at e
 ·split at e
  ·cases e
  ·rename_i y f
   have:=c d n y f;simp only[QZ,Prod.mk.injEq]at e;rw[<- e.2,JK];omega
 ·simp only[QZ,Prod.mk.injEq]at e
  rw[<- e.2];simp;omega
theorem CP{by_ fr d:Int}{n:Nd}{y:Tr}(e:fE by_ fr d n=some y):(row y).length=1:=by
 simp only[fE]at e;split at e
 ·split at e
  ·cases e
  ·obtain rfl:=JB e
   rfl
 ·obtain rfl:=JB e
  rfl
end Go.Q
namespace Tm
mutual
def varsT:Tr ->Int ->Int ->List (Int×Int)
 | .mk n ks,d,nb=>if n.op=1 then [(n.a,d)]else varsK ks n nb 0 d
def varsK:List Tr ->Nd ->Int ->Int ->Int ->List (Int×Int)
 |[],_,_,_,_=>[]
 |x::r,n,nb,k,d=>varsT x (d+arC n nb k) n.b++varsK r n nb (k+1) d
end
section
variable{S:Type}(met:S ->Int ->Int ->S×Bool)
def nB(p:Bool×S)(a d:Int):Bool×S:=if p.1=true then p else ((met p.2 a d).2,(met p.2 a d).1)
def gr(p:Bool×S):List (Int×Int) ->Bool×S
 |[]=>p
 |q::r=>gr (nB met p q.1 q.2) r
theorem II(p:Bool×S)(l m:List (Int×Int)):gr met p (l++m)=gr met (gr met p l) m:=by
 induction l generalizing p with
 |nil=>rfl
 |cons q l a=>exact a _
def nC(s:(Bool×S)×List Nd)(n:Nd)(d:Int):Option ((Bool×S)×List Nd):=some (if n.op=1 then nB met s.1 n.a d else s.1,s.2)
mutual
theorem wT_e:∀(x:Tr) (s:Md) (d nb:Int) (p:Bool×S) (l:List Nd),okT cnt nx x s ->∃a,wT (nC met) cK x d nb (p,l)=some (gr met p (varsT x d nb),a)
 | .mk n ks,s,d,nb,p,l,f=>by
  obtain⟨hc,c⟩:=f
  by_cases b:n.op=1
  ·have:ks=[]:=List.length_eq_zero_iff.1 (pG hc b)
   subst this;exact⟨l,by simp[wT,nC,b,wK,varsT,gr]⟩
  ·by_cases e:n.op=3 \/n.op=13
   ·obtain⟨a,h⟩:=Hl' ks n s nb 0 d 0 p (l++[n]) c
    exact⟨a,by simp only[wT,KX e,cK,varsT,KY b];exact h⟩
   ·obtain⟨a,h⟩:=Hl' ks n s nb 0 d 0 p l c
    exact⟨a,by simp only[wT,KY e,nC,varsT,KY b];exact h⟩
theorem Hl':∀(ks:List Tr) (n:Nd) (s:Md) (nb k d:Int) (j:Nat) (p:Bool×S) (l:List Nd),bH cnt nx ks n s j ->∃a,wK (nC met) cK ks n nb k d (p,l)=some (gr met p (varsK ks n nb k d),a)
 |[],n,s,nb,k,d,j,p,l,_=>⟨l,by simp[wK,varsK,gr]⟩
 |x::r,n,s,nb,k,d,j,p,l,b=>by
  obtain⟨c,hr⟩:=b;obtain⟨e,f⟩:=wT_e x (nx s n j) (d+arC n nb k) n.b p l c;obtain⟨g,i⟩:=Hl' r n s nb (k+1) d (j+1) (gr met p (varsT x (d+arC n nb k) n.b)) e hr;exact⟨g,by simp only[wK,f,varsK,II];exact i⟩
end
end
theorem uf(f:Int ->Int ->Bool):∀(l:List (Int×Int)) (b:Bool),(gr (λ_ a d=>((),f a d)) (b,()) l).1=(b||l.any λq=>f q.1 q.2)
 |[],b=>by simp[gr]
 |q::r,b=>by
  cases b with
  |true=>
   simp only[gr,nB,if_true,Bool.true_or];rw[uf f r true];simp
  |false=>
   simp only[gr,nB,List.any_cons];rw[KY UO,uf f r];simp
def ku(x:Tr)(n:Int):Bool:=(varsT x 0 0).all λq=>decide (q.1-q.2<max n 0)
def oP(x:Tr)(v:Int):Int×Int:=(varsT x 0 0).foldl (λs q=>if q.1-q.2=v then (s.1+1,max s.2 q.2)else s) (0,0)
theorem CQ(v:Int):∀(l:List (Int×Int)) (s:Int×Int),gr (λ(s:Int×Int) a d=>(if a-d=v then (s.1+1,max s.2 d)else s,false)) (false,s) l=(false,l.foldl (λs q=>if q.1-q.2=v then (s.1+1,max s.2 q.2)else s) s)
 |[],s=>rfl
 |q::r,s=>by
  simp only[gr,nB,List.foldl_cons];rw[KY UO];exact CQ v r _
mutual
theorem gL':∀(x:Tr) (d nb:Int),(varsT x d nb).length<=(row x).length
 | .mk n ks,d,nb=>by
  simp only[varsT,row,JV];split
  ·simp
  ·have:=mM' ks n nb 0 d
   omega
theorem mM':∀(ks:List Tr) (n:Nd) (nb k d:Int),(varsK ks n nb k d).length<=(rows ks).length
 |[],n,nb,k,d=>by simp[varsK,rows]
 |x::r,n,nb,k,d=>by
  have h1:=gL' x (d+arC n nb k) n.b;have a:=mM' r n nb (k+1) d;simp only[varsK,rows,JK];omega
end
theorem xD(v:Int):∀(l:List (Int×Int)) (s:Int×Int) (D:Int),0<=s.1 ->0<=s.2 ->s.2<=D ->(∀q∈l,0<=q.2/\q.2<=D) ->0<=(l.foldl (λs q=>if q.1-q.2=v then (s.1+1,max s.2 q.2)else s) s).1/\(l.foldl (λs q=>if q.1-q.2=v then (s.1+1,max s.2 q.2)else s) s).1<=s.1+l.length/\0<=(l.foldl (λs q=>if q.1-q.2=v then (s.1+1,max s.2 q.2)else s) s).2/\(l.foldl (λs q=>if q.1-q.2=v then (s.1+1,max s.2 q.2)else s) s).2<=D
 |[],s,D,h1,h2,h3,_=>⟨h1,Ud,h2,h3⟩
 |q::r,s,D,h1,h2,h3,h=>by
  simp only[List.foldl_cons,JV];have a:=h q Ud
  by_cases e:q.1-q.2=v
  ·rw[KX e]
   have:=xD v r (s.1+1,max s.2 q.2) D Us Us Us (λq a=>h q (by simp[a]));simp only at this;refine⟨this.1,Uo,this.2.2.1,this.2.2.2⟩
  ·rw[KY e]
   have:=xD v r s D h1 h2 h3 (λq a=>h q (by simp[a]));refine⟨this.1,Uo,this.2.2.1,this.2.2.2⟩
mutual
theorem fj':∀(x:Tr) (s:Md) (d nb:Int),okT cnt nx x s ->0<=d ->0<=nb ->nb<=4 ->∀q∈varsT x d nb,d<=q.2/\q.2<=d+4*(row x).length/\0<=q.1/\q.1<=1048576
 | .mk n ks,s,d,nb,e,f,g,h4,q,a=>by
  obtain⟨hc,i⟩:=e;simp only[varsT]at a;split at a
  ·rename_i k
   simp only[JJ,JZ,or_false]at a;subst a;have b:aw n=true:=by
    cases s with
    |tm=>exact(eS hc).1
    |fn=>exact(oL hc).1
    |am=>
     simp only[cnt]at hc;split at hc
     ·rename_i q
      exact q.2
     ·cases hc
   have:=dn b;simp only[row,JV];omega
  ·have j:0<=n.b/\(n.op=12 ->n.b<=4):=by
    have b:aw n=true:=by
     cases s with
     |tm=>exact(eS hc).1
     |fn=>exact(oL hc).1
     |am=>
      simp only[cnt]at hc;split at hc
      ·rename_i q
       exact q.2
      ·cases hc
    refine⟨(dn b).1,λc=>?_⟩;have:aI n.b 1 4=true:=by simp[aw,c]at b;exact b.1
    exact(dI.1 this).2
   have:=sW' ks n s nb 0 d 0 i f g h4 j q a;simp only[row,JV];omega
theorem sW':∀(ks:List Tr) (n:Nd) (s:Md) (nb k d:Int) (j:Nat),bH cnt nx ks n s j ->0<=d ->0<=nb ->nb<=4 ->(0<=n.b/\(n.op=12 ->n.b<=4)) ->∀q∈varsK ks n nb k d,d<=q.2/\q.2<=d+4+4*(rows ks).length/\0<=q.1/\q.1<=1048576
 |[],n,s,nb,k,d,j,_,_,_,_,_,q,a=>by simp[varsK]at a
 |x::r,n,s,nb,k,d,j,p,t,u,h4,hb,q,a=>by
  obtain⟨o,hr⟩:=p;simp only[varsK,JW]at a;have w:0<=arC n nb k/\arC n nb k<=4:=by
   unfold arC;have:=xt n k;split
   ·split<;>omega
   ·omega
  simp only[rows,JK];rcases a with a|a
  ·by_cases g:n.op=12
   ·have:=fj' x (nx s n j) (d+arC n nb k) n.b o Uo hb.1 (hb.2 g) q a
    omega
   ·have e:varsT x (d+arC n nb k) n.b=varsT x (d+arC n nb k) 0:=by
     obtain⟨m,l⟩:=x;have i:m.op≠13:=λb=>by
      have c:=o.1;cases s with
      |tm=>
       have:nx Md.tm n j= .am \/nx Md.tm n j= .tm:=by
        simp only[nx,KY g];split<;>simp
       rcases this with e|e
       ·rw[e]at c
        simp[cnt,b]at c
       ·rw[e]at c
        exact(eS c).2.2.1 b
      |fn=>exact(eS (show cnt .tm m=_ from c)).2.2.1 b
      |am=>
       have c:cnt .am m=_:=c;simp[cnt,b]at c
     simp only[varsT];have:∀(l:List Tr) (k d nb f:Int),varsK l m nb k d=varsK l m f k d:=by
      intro l
      induction l with
      |nil=>intros;rfl
      |cons y l v=>
       intro k d nb f;simp only[varsK,mr i,v (k+1) d nb f]
     rw[this l 0 (d+arC n nb k) n.b 0]
    rw[e]at a;have:=fj' x (nx s n j) (d+arC n nb k) 0 o Uo Uo Uo q a;omega
  ·have:=sW' r n s nb (k+1) d (j+1) hr t u h4 hb q a
   omega
end
end Tm
namespace Go.Q
section
variable{S:Type}
def CR(f:Nat)(caps:Array Value)(MB:List Nat)(US:World ->S ->Prop)(met:S ->Int ->Int ->S×Bool):Prop:=
 ∀(w:World) (s:S) (a d:Nat),a<=1048576 ->d<=100000 ->US w s ->dO prog f/\Calls prog f (#[]++[iV (a:Int),iV (d:Int)].toArray++caps) w (λe w'=>e= .returned (.bool (met s a d).2)/\US w' (met s a d).1/\Kp MB w w')
def CS(bf bm f:Nat)(caps:Array Value)(US:World ->S ->Prop)(w:World)(p:Bool×S):Prop:=Bk w.heap bf [.bool p.1] 4/\Bk w.heap bm [.func (.func f) #[] caps] 220/\US w p.2
end
end Go.Q
namespace Tm
section
variable{h:Int ->Nd ->Option Tr}
mutual
theorem oR':∀(x:Tr) (s:Md) (d nb:Int),okT cnt nx x s ->(∀q∈varsT x d nb,∀n:Nd,n.op=1 ->n.a=q.1 ->(h q.2 n).isSome=true) ->(gT h x d nb).isSome=true
 | .mk n ks,s,d,nb,c,b=>by
  obtain⟨hc,f⟩:=c
  by_cases a:n.op=1
  ·simp only[gT,a,if_true]
   exact b (n.a,d) (by simp[varsT,a]) n a rfl
  ·simp only[gT,KY a]
   have:=sX' ks n s nb 0 d 0 f (λq g=>b q (by simpa[varsT,a]using g));cases e:gK h ks n nb 0 d with
   |none=>rw[e]at this;cases this
   |some i=>rfl
theorem sX':∀(ks:List Tr) (n:Nd) (s:Md) (nb k d:Int) (j:Nat),bH cnt nx ks n s j ->(∀q∈varsK ks n nb k d,∀n:Nd,n.op=1 ->n.a=q.1 ->(h q.2 n).isSome=true) ->(gK h ks n nb k d).isSome=true
 |[],n,s,nb,k,d,j,_,_=>rfl
 |x::r,n,s,nb,k,d,j,f,b=>by
  obtain⟨g,hr⟩:=f;have c:=oR' x (nx s n j) (d+arC n nb k) n.b g (λq a=>b q (by simp[varsK,a]));have e:=sX' r n s nb (k+1) d (j+1) hr (λq a=>b q (by simp[varsK,a]));simp only[gK];cases i:gT h x (d+arC n nb k) n.b with
  |none=>rw[i]at c;cases c
  |some y=>
   cases l:gK h r n nb (k+1) d with
   |none=>rw[l]at e;cases e
   |some m=>rfl
end
end
def dR(x:Tr):Prop:=∀q∈varsT x 0 0,q.1<=500000
def aG(x:Tr)(by_ fr:Int):Tr:=(ln x by_ fr).getD x
theorem ms{x:Tr}(a:Ok .tm x)(b:dR x){by_ fr:Int}(hb:by_<=500000):ln x by_ fr=some (aG x by_ fr):=by
 have h:(ln x by_ fr).isSome=true:=oR' x .tm 0 0 a.1 (λq c n _ d=>by
  have:=b q c;unfold fE;split
  ·rw[KY Uo];rfl
  ·rfl)
 unfold aG;cases e:ln x by_ fr with
 |none=>rw[e]at h;cases h
 |some y=>rfl
theorem ug{x:Tr}(a:Ok .tm x)(b:dR x){by_ fr:Int}(c:0<=by_)(hb:by_<=500000):Ok .tm (aG x by_ fr):=ID c a (ms a b hb)
def kw(u:Tr)(b:Int):Tr:=if 0<=b/\b<=500000 then aG u b 0 else u
def fG(u:Tr)(v:Int)(d:Int)(n:Nd):Option Tr:=if n.a=v+d then some (kw u (v+d))else if v+d<n.a/\0<n.a then some (.mk {n with a:=n.a-1} [])else some (.mk n [])
def fH(x u:Tr)(v:Int):Tr:=(gT (fG u v) x 0 0).getD x
theorem pJ{x u:Tr}(a:Ok .tm x)(v:Int):gT (fG u v) x 0 0=some (fH x u v):=by
 have h:(gT (fG u v) x 0 0).isSome=true:=oR' x .tm 0 0 a.1 (λq b n _ c=>by
  unfold fG;split
  ·rfl
  ·split<;>rfl)
 unfold fH;cases e:gT (fG u v) x 0 0 with
 |none=>rw[e]at h;cases h
 |some y=>rfl
theorem CT{u:Tr}(a:Ok .tm u)(c:dR u)(b:Int):Ok .tm (kw u b):=by
 unfold kw;split
 ·rename_i h
  exact ug a c h.1 h.2
 ·exact a
theorem xE{x u:Tr}(c:Ok .tm x)(g:Ok .tm u)(i:dR u){v:Int}:Ok .tm (fH x u v):=
 (xu (h:=fG u v) (λd n y j a e=>by
  have b:aI n.a 0 1048576=true/\n.b=0:=by simpa[aw,a]using j
  have f:=dI.1 b.1;simp only[fG]at e;split at e
  ·obtain rfl:=JB e
   exact CT g i _
  ·split at e
   ·obtain rfl:=JB e
    exact oN (by simpa using a) Us Us b.2
   ·obtain rfl:=JB e
    exact oN a f.1 f.2 b.2) x .tm 0 0 _ c (pJ c v)).1
end Tm
namespace Go.Q
theorem kx{x:Tr}(a:Ok .tm x)(hl:(row x).length<=4096):fF (row x)=0:=by
 unfold fF;rw[KY Uo,CD a]
 rfl
theorem IJ{h:Int ->Nd ->Option Tr}{G:Nat}(a:1<=G)(b:∀d n y,h d n=some y ->(row y).length<=G){x y:Tr}{d nb:Int}(c:Ok .tm x)(e:gT h x d nb=some y):(row y).length<=G*(row x).length:=by
 have:=GM' (h:=h) x .tm d nb () [] c.1;rw[e]at this;have:=CG a (xC a b) x d nb () [] () _ this
 simpa using this
theorem ui{x:Tr}(a:Ok .tm x)(b:dR x){by_ fr:Int}(hb:by_<=500000):(row (aG x by_ fr)).length<=(row x).length:=by
 have:=IJ (KJ 1) (λd n y e=>by rw[CP e];exact KJ _) a (ms a b hb (fr:=fr));omega
section
variable{C:Mem}
def CU(ba bt bd:Nat)(v:Int)(w:World)(s:Int×Int):Prop:=Bk w.heap ba [iV v] 3/\Bk w.heap bt [iV s.1] 3/\Bk w.heap bd [iV s.2] 3/\I64 s.1
def IK(v:Int)(s:Int×Int)(a d:Int):(Int×Int)×Bool:=(if a-d=v then (IntKind.wrap .i64 (s.1+1),max s.2 d)else s,false)
end
def CV(ba bu:Nat)(v:Int)(ua:Option Addr)(n cap:Nat)(w:World)(_:Unit):Prop:=Bk w.heap ba [iV v] 3/\Bk w.heap bu [.slice ua n cap] 39
theorem CW{u:Tr}(c:Ok .tm u)(a:dR u)(b:Int):(row (kw u b)).length<=(row u).length:=by
 unfold kw;split
 ·rename_i h
  exact ui c a h.2
 ·exact KJ _
theorem IL{u:Tr}(b:Ok .tm u)(a:dR u){v d:Int}{n:Nd}{y:Tr}(e:fG u v d n=some y):(row y).length<=(row u).length:=by
 have c:=aR u;simp only[fG]at e;split at e
 ·obtain rfl:=JB e
  exact CW b a _
 ·split at e
  ·obtain rfl:=JB e
   simp[row,rows];omega
  ·obtain rfl:=JB e
   simp[row,rows];omega
def gN(x u:Tr)(v:Int):Bool:=decide (4096<((row x).length:Int)+(oP x v).1*(((row u).length:Int)-1))
end Go.Q
namespace Go.Wx
def rVal:Rd Value where
 sz:=1
 den C cs x:=cs=[x]/\x.oneCell'=true
 len:=by rintro C cs x ⟨rfl,_⟩;rfl
 mono:=by rintro C C' cs x hc h;exact h
 one:=by rintro C cs x ⟨rfl,h⟩ u hu;simp at hu;subst hu;exact h
theorem Aw':Flat rVal:=λ_ _ _ _ h=>h
theorem Sl.none_nil{α:Type}{R:Rd α}{C:Mem}{l:List α}(h:Sl R C none l):l=[]:=by
 rcases h.2 with h|⟨_,_,h,_⟩
 ·exact List.length_eq_zero_iff.1 h
 ·cases h
end Go.Wx
namespace Go.Q
def IM(l:List Nd)(w w':World)(v:Value):Prop:=∃a c,v= .slice a l.length c/\Sl rNd (New w.heap.size w') a l/\l.length<=c
structure PtS(C:Mem)(w0 w:World)(t:List Nd)(ta:Option Addr)(cap bt ba bo br bn:Nat)(cn:List Value)(p:Nat)(vo vr:Value)(os:List Value)(rs:List Int):Prop where
 sub:Sub C w
 k0:Kp [] w0 w
 low:w0.heap.size<=bt/\w0.heap.size<=ba/\w0.heap.size<=bo/\w0.heap.size<=br/\w0.heap.size<=bn
 nd:[bt,ba,bo,br,bn].Nodup
 cbt:Bk w.heap bt [.slice ta t.length cap] 39
 cba:Bk w.heap ba [iV (p:Int)] 3
 cbo:Bk w.heap bo [vo] 40
 cbr:Bk w.heap br [vr] 124
 cbn:Bk w.heap bn cn 47
 oo:Own rVal 39 w0.heap.size w vo os
 orr:Own wG' 3 w0.heap.size w vr rs
 f1:∀g,vo.ownBlock=some g ->g ∉ [bt,ba,bo,br,bn]/\vr.ownBlock≠some g
 f2:∀g,vr.ownBlock=some g ->g ∉ [bt,ba,bo,br,bn]
end Go.Q
