import Derived.Test.YtfjfpkkpfbadoaaGreatMf02
import Derived.Lib.AppendZerosOnto
set_option linter.all false
set_option maxHeartbeats 4000000
open Go.Proofs Go.Proofs.Tryz Cd Go Go.Wx Tm
namespace Tm
def kidsT:Tr ->List Tr
 | .mk n ks=>if n.op=2 then []else if n.op=12 then ks.flatMap (·.ks)else ks
def uj(C:Mem)(os:List Value)(ys:List Tr):Prop:=os.length=ys.length/\∀(i:Nat) v y,os[i]?=some v ->ys[i]?=some y ->∃a c,v= .slice a (row y).length c/\Sl rNd C a (row y)/\(row y).length<=c
theorem fZ':∀{ks:List Tr},(∀k∈ks,k.ks.length=2) ->(ks.flatMap (·.ks)).length=2*ks.length
 |[],_=>rfl
 |k::r,h=>by
  simp only[List.flatMap_cons,JK,JV];rw[h k Ud,fZ' λk a=>h k (by simp[a])];omega
end Tm
namespace Go.Q
def kbT(n:Nd)(k:Nat):Int:=if n.op=12 then (if k%2=1 then n.b else 0)else bi n k
def CX(ys:List Tr)(w w':World)(v:Value):Prop:=∃a c,v= .slice a ys.length c/\Sl (gJ rNd) (New w.heap.size w') a (ys.map row)/\ys.length<=c
theorem gO{x:Tr}(m:Ok .tm x):(kidsT x).length<=18:=by
 obtain⟨n,o⟩:=x;obtain⟨p,c,b⟩:=m.kids;obtain⟨d,_,_,e⟩:=eS p;have q:=nA d;simp only[kidsT];split
 ·simp
 ·rename_i s
  rw[KY s]at e;split
  ·rename_i a
   have:aI n.b 1 4=true:=by simp[aw,a]at d;exact d.1
   have u:=dI.1 this;have g:bw n=n.b:=by simp[bw,a]
   have i:∀(r:List Tr) (k:Nat),bH cnt nx r n .tm k ->eV' r=true ->(r.flatMap (·.ks)).length=2*r.length:=by
    intro r
    induction r with
    |nil=>intros;rfl
    |cons y r t=>
     intro k g b;obtain⟨j,_,_⟩:=kt g b;rw[show nx Md.tm n 0= .fn by simp[nx,a]]at j;obtain⟨f,z,A,rfl,_⟩:=j.fn;simp only[List.flatMap_cons,JK,JV];rw[t (k+1) g.2 (oK b).2];simp[Tr.ks];omega
   rw[i o 0 c b];omega
  ·omega
mutual
theorem ig':∀(x:Tr),∀y∈kidsT x,(row y).length<(row x).length
 | .mk n ks=>λy a=>by
  simp only[row,JV];simp only[kidsT]at a;split at a
  ·cases a
  ·split at a
   ·obtain⟨f,d,b⟩:=List.mem_flatMap.1 a
    have c:=eI' d;obtain⟨m,l⟩:=f;simp only[Tr.ks]at b;have e:=eI' b;simp only[row,JV]at c;omega
   ·have c:=eI' a
    omega
theorem eI':∀{ks:List Tr} {y:Tr},y∈ks ->(row y).length<=(rows ks).length
 |x::r,y,h=>by
  simp only[rows,JK];rcases List.mem_cons.1 h with rfl|h
  ·omega
  ·have:=eI' h
   omega
end
end Go.Q
namespace Tm
mutual
def headT:Tr ->Tr
 | .mk n ks=>if n.op=6 then Dz' ks (.mk n ks)else .mk n ks
def Dz':List Tr ->Tr ->Tr
 |[],x=>x
 |f::_,_=>headT f
end
mutual
def argsT:Tr ->List Tr
 | .mk n ks=>if n.op=6 then DA' ks else []
def DA':List Tr ->List Tr
 |[]=>[]
 |f::r=>argsT f++r
end
theorem nD{n:Nd}{ks:List Tr}(i:Ok .tm (.mk n ks))(d:n.op=6):∃f a,ks=[f,a]/\Ok .tm f/\Ok .tm a:=by
 obtain⟨j,c,k⟩:=i.kids;obtain⟨_,_,_,b⟩:=eS j;simp[d,bw]at b
 match ks,b with
 |[f,a],_=>
  obtain⟨e,m,o⟩:=kt c k;obtain⟨g,_,_⟩:=kt m o;rw[show nx Md.tm n 0= .tm by simp[nx,d]]at e g;exact⟨f,a,rfl,e,g⟩
theorem lq{n:Nd}{f a:Tr}(b:n.op=6):headT (.mk n [f,a])=headT f:=by simp[headT,Dz',b]
theorem lr{n:Nd}{f a:Tr}(b:n.op=6):argsT (.mk n [f,a])=argsT f++[a]:=by simp[argsT,DA',b]
theorem mu{n:Nd}{ks:List Tr}(a:n.op≠6):headT (.mk n ks)= .mk n ks:=by simp[headT,a]
theorem nE{n:Nd}{ks:List Tr}(a:n.op≠6):argsT (.mk n ks)=[]:=by simp[argsT,a]
end Tm
namespace Go.Wx
abbrev CC(f:FuncId)(args:Array Value)(w:World)(R:Ending ->World ->Prop):Prop:=dO Go.Proofs.Tryz.prog f/\Calls Go.Proofs.Tryz.prog f args w R
end Go.Wx
namespace Go.Q
theorem gN':∀(N:Nat) (x:Tr),(row x).length<=N ->Ok .tm x ->(row (headT x)).length<=(row x).length/\(argsT x).length+(row (headT x)).length<=(row x).length/\Ok .tm (headT x)/\∀y∈argsT x,Ok .tm y/\(row y).length<(row x).length
 |0,x,h,_=>by have:=aR x;omega
 |N+1,.mk n m,h,d=>by
  by_cases c:n.op=6
  ·obtain⟨f,a,rfl,e,g⟩:=nD d c
   have i:(row (.mk n [f,a])).length=1+(row f).length+(row a).length:=by simp[row,rows];omega
   obtain⟨o,p,j,k⟩:=gN' N f Uo e;rw[lq c,lr c,i];have q:=aR a;refine⟨Uo,by simp only[JK,JV,JU];omega,j,λy b=>?_⟩;rcases List.mem_append.1 b with b|b
   ·obtain⟨q1,r⟩:=k y b
    exact⟨q1,Uo⟩
   ·obtain rfl:y=a:=by simpa using b
    exact⟨g,Uo⟩
  ·rw[mu c,nE c]
   exact⟨KJ _,Ud,d,λy b=>by cases b⟩
theorem pK{T e sz bs ty:Nat}(b:Go.Wx.look τ.slcs T=some (e,sz,bs)){a:Option Addr}{n c:Nat}{w:World}{k:Value ->World ->Prop}(h:k (iV c) w):EvRun prog (Builtin.cap_ #[T] ty #[.slice a n c]) w k:=by
 obtain⟨d,_⟩:=τok.slcs T e sz bs b;exact run (by simp[Builtin.cap_,run_underlying d,goInt]) h
theorem IN(z:Array Value)(n:Nat):(Builtin.zeroCells z n).size=n*z.size:=by simp[Builtin.zeroCells]
theorem xF{α:Type}{R:Rd α}{T e bs:Nat}{z:List Value}(E:Go.Wx.look τ.slcs T=some (e,R.sz,bs))(F:τ.zero e=some z)(y:0<R.sz)(o:z.length=R.sz)(g:bs<=100){w:World}{k:Value ->World ->Prop}(n:Nat)(H:0<n)(I:n<=1000000){ty:Nat}(K:∀B G w',B=w.heap.size ->n<=G ->Own R e w.heap.size w' (.slice (some ⟨B,0,none⟩) 0 G) [] ->Kp [] w w' ->k (.slice (some ⟨B,0,none⟩) n G) w'):
  EvRun prog (Builtin.append_ #[T,3] ty #[.slice none 0 0,iV (n:Int)]) w k:=by
 obtain⟨M,p,d,q,i⟩:=τok.slcs T e R.sz bs E;obtain⟨a,f,c,O,r,A⟩:=mq τok (T:=e) (z:=z) F;have:a=p:=by rw[c]at d;simpa using d
 subst this;have s:f.cells.size=R.sz:=by rw[r];simpa using o
 have j:n*bs<=1000000*100:=Nat.mul_le_mul I g;have h:=Lib.run_append_grow_zeros (P:=prog) w T 3 ty e a f .i64 .i64 M underlying3 c O none 0 0 [] (run_firstCells_none (w:=w.drew) a.size 0 0 0) n H Uo Uo Uk (by rw[i];exact KQ j UO)
  (by rw[i];exact growslice_fits Uo (by rw[KW];exact KQ j UO))
 rw[KW]at h;have t:=grownCap_ge w n 0 e;have m:=grownCap_le_maxLen w n 0 e (by unfold maxLen;omega)
 generalize grownCap w n 0 e=G at h t m
 have u:Kp [] w (w.drew.alloc (.cells (#[]++Builtin.zeroCells f.cells n++Builtin.zeroCells f.cells (G-n)) e)):=⟨rfl,rfl,rfl,by
  show w.heap.size<=(w.heap.push _).size;simp,λb D _=>by
  show (w.heap.push _)[b]?=_;rw[Array.getElem?_push_lt D];simp[D]⟩
 refine run h (K _ _ _ rfl t ⟨⟨[],⟨Ud,.inr ⟨w.heap.size,G,#[]++Builtin.zeroCells f.cells n++Builtin.zeroCells f.cells (G-n),rfl,KJ _,?_,Ud,m,?_,Ud⟩⟩,trivial⟩,?_⟩ u)
 ·show (w.heap.push _)[w.heap.size]?=_
  simp
 ·have:n*R.sz+(G-n)*R.sz=G*R.sz:=by rw[<- Nat.add_mul,Nat.add_sub_cancel' t]
  simp[IN,s,this]
 ·show w.heap.size<=(w.heap.push _).size
  simp
theorem IP(n:Nat)(a:0<n)(b:n<=1000000)(w:World):
  CC 214 #[.slice none 0 0,iV (n:Int)] w (λe w'=>∃v,e= .returned v/\Own rNd 47 w.heap.size w' v []/\Kp [] w w'):=by
 refine oF func214 ?_;refine cO (args:=[_,_]) 27 [.tmp 4] τok func214 ?_;refine pK rfl<|i6 ?_;refine i6 ?_;refine dH (λg=>?_) (λg=>?_);rotate_left
 ·exact absurd Uo g
 refine pK rfl<|pE τok rfl 0 (.slice none 0 0) rfl (KJ _) rfl ?_;have e:((n:Int)-((0:Nat)-(0:Nat):Int))=(n:Int):=Uo
 rw[e];refine xF (R:=rNd) rfl rfl UO rfl UO n a b λB G f i j c d=>?_;exact pE τok rfl 0 _ rfl (KV _) rf<|⟨_,rfl,c,d⟩
end Go.Q
namespace Tm
def appN:Nd:=⟨6,0,0⟩
def ak':Tr ->List Tr ->Tr
 |x,[]=>x
 |x,y::r=>ak' (.mk appN [x,y]) r
theorem bO':∀(ys:List Tr) (x:Tr),row (ak' x ys)=List.replicate ys.length appN++(row x++rows ys)
 |[],x=>by simp[ak',rows]
 |y::r,x=>by
  rw[ak',bO' r];simp only[row,rows,JV,JD];rw[List.replicate_succ'];simp[List.append_assoc]
theorem eJ':∀(ys:List Tr) (x:Tr),Ok .tm x ->(∀y∈ys,Ok .tm y) ->Ok .tm (ak' x ys)
 |[],x,a,_=>a
 |y::r,x,a,b=>by
  rw[ak'];refine eJ' r _ ?_ (λz c=>b z (by simp[c]));have h1:=b y Ud;exact⟨⟨show cnt .tm appN=some 2 by decide,a.1,h1.1,trivial⟩,by simp[gF',eV',appN,a.2,h1.2]⟩
theorem IQ{D:Mem}{a:Option Addr}{ys:List Tr}(h:Sl (gJ rNd) D a (ys.map row)):∃vs,Sl rVal D a vs/\uj D vs ys:=by
 have s:=h.1;rw[KF]at s;rcases h.2 with A|⟨b,o,rfl,B⟩
 ·have:ys=[]:=by simpa using A
  subst this;exact⟨[],Sl.nil _ _ _,rfl,λi v y g=>by simp at g⟩
 ·have g:∀i:Nat,∃v,∀y,ys[i]?=some y ->(∃a c,v= .slice a (row y).length c/\Sl rNd D a (row y)/\(row y).length<=c)/\D b (o+i*1) v:=λi=>by
   cases e:ys[i]? with
   |none=>exact⟨.slice none 0 0,λy n=>by cases n⟩
   |some y=>
    obtain⟨I,⟨p,q,rfl,E,r⟩,F⟩:=B i (row y) (by rw[JX,e];rfl);refine⟨.slice p (row y).length q,λz H=>?_⟩;obtain rfl:=JB H;exact⟨⟨p,q,rfl,r,E⟩,F 0 _ rfl⟩
  obtain⟨f,t⟩:=Classical.axiomOfChoice g;have k:∀(i:Nat) (v:Value),((List.range ys.length).map f)[i]?=some v ->i<ys.length/\v=f i:=λi v g=>by
   rw[JX]at g;obtain⟨j,m,rfl⟩:=Option.map_eq_some_iff.1 g;have d:=aL m;simp at d;rw[List.getElem?_range d]at m;obtain rfl:=JB m;exact⟨d,rfl⟩
  refine⟨(List.range ys.length).map f,⟨by simpa using s,.inr ⟨b,o,rfl,λi v g=>?_⟩⟩,Ud,λi v y g n=>?_⟩
  ·obtain⟨d,rfl⟩:=k i v g
   obtain⟨y,n⟩:∃y,ys[i]?=some y:=⟨ys[i],Ud⟩
   obtain⟨⟨p,q,e,_⟩,r⟩:=t i y n;refine⟨[f i],⟨rfl,by rw[e];rfl⟩,λj u m=>?_⟩
   match j with
   |0=>
    obtain rfl:=JB m;exact r
   |j+1=>simp at m
  ·obtain⟨d,rfl⟩:=k i v g
   exact(t i y n).1
theorem fk':∀ys:List Tr,(ys.map row).flatten=rows ys
 |[]=>rfl
 |y::r=>by rw[List.map_cons,List.flatten_cons,fk' r,rows]
end Tm
namespace Go.Q
end Go.Q
namespace Tm
def eU(op:Int):List Tr ->Tr ->Tr
 |[],x=>x
 |d::r,x=>.mk ⟨op,0,0⟩ [d,eU op r x]
def dS(op:Int)(ys:List Tr):List Nd:=ys.flatMap λd=>⟨op,0,0⟩::row d
theorem uk(op:Int):∀(ys:List Tr) (x:Tr),row (eU op ys x)=dS op ys++row x
 |[],x=>by simp[eU,dS]
 |d::r,x=>by
  simp only[eU,row,rows,dS,List.flatMap_cons,JD];rw[uk op r x];simp[dS]
theorem xG{op:Int}(a:op=4 \/op=5):∀(ys:List Tr) (x:Tr),Ok .tm x ->(∀y∈ys,Ok .tm y) ->Ok .tm (eU op ys x)
 |[],x,b,_=>b
 |d::r,x,b,c=>by
  have h1:=c d Ud;have e:=xG a r x b (λz g=>c z (by simp[g]));rw[eU];have i:cnt .tm ⟨op,0,0⟩=some 2:=by rcases a with rfl|rfl<;>decide
  have f:∀k,nx .tm ⟨op,0,0⟩ k= .tm:=λk=>by rcases a with rfl|rfl<;>rfl
  refine⟨⟨i,by rw[f];exact h1.1,by rw[f];exact e.1,trivial⟩,?_⟩;have:op≠2:=Uo
  simp[gF',eV',h1.2,e.2,this]
theorem IR(op:Int)(ys:List Tr)(d:Tr):dS op (ys++[d])=dS op ys++(⟨op,0,0⟩::row d):=by simp[dS]
theorem preB_take(op:Int)(ys:List Tr)(i:Nat):(dS op (ys.take i)).length<=(dS op ys).length:=by
 have:dS op ys=dS op (ys.take i)++dS op (ys.drop i):=by
  unfold dS;rw[<- List.flatMap_append,List.take_append_drop]
 rw[this,JK];omega
end Tm
namespace Go.Q
end Go.Q
namespace Tm
def BlD(x:Tr)(d nb n:Int):Prop:=∀q∈varsT x d nb,q.1-q.2<n
mutual
theorem xH(e:Int):∀(x:Tr) (d nb:Int),varsT x (d+e) nb=(varsT x d nb).map λq=>(q.1,q.2+e)
 | .mk n ks,d,nb=>by
  simp only[varsT];split
  ·rfl
  ·exact CY e ks n nb 0 d
theorem CY(e:Int):∀(ks:List Tr) (n:Nd) (nb k d:Int),varsK ks n nb k (d+e)=(varsK ks n nb k d).map λq=>(q.1,q.2+e)
 |[],n,nb,k,d=>rfl
 |x::r,n,nb,k,d=>by
  simp only[varsK,KB];rw[<- xH e x (d+arC n nb k) n.b,<- CY e r n nb (k+1) d,show d+e+arC n nb k=d+arC n nb k+e by omega]
end
theorem BlD.sh{x:Tr}{d nb n:Int}(e:Int):BlD x (d+e) nb n↔BlD x d nb (n+e):=by
 unfold BlD;rw[xH];constructor
 ·intro h q a
  have:=h (q.1,q.2+e) (QD a);simp only at this;omega
 ·intro h q a
  obtain⟨p,b,rfl⟩:=List.mem_map.1 a;have:=h p b;simp only;omega
theorem BlD.z{x:Tr}{d nb n:Int}:BlD x d nb n↔BlD x 0 nb (n+d):=by
 rw[<- BlD.sh];simp
theorem um{x:Tr}(h:x.n.op≠13)(d nb a:Int):varsT x d nb=varsT x d a:=by
 obtain⟨m,l⟩:=x;simp only[Tr.n]at h;simp only[varsT];have:∀(l:List Tr) (k d nb a:Int),varsK l m nb k d=varsK l m a k d:=by
  intro l
  induction l with
  |nil=>intros;rfl
  |cons y l b=>
   intro k d nb a;simp only[varsK,mr h,b (k+1) d nb a]
 rw[this l 0 d nb a]
theorem Ok.n13{x:Tr}(h:Ok .tm x):x.n.op≠13:=by
 obtain⟨n,a⟩:=x;exact h.tm.2.2
def Bl(x:Tr)(n:Int):Prop:=BlD x 0 0 n
theorem Bl.mono{x:Tr}{n m:Int}(h:Bl x n)(hm:n<=m):Bl x m:=λq a=>by have:=h q a;omega
theorem Ok.bld{x:Tr}(h:Ok .tm x){d nb n:Int}:BlD x d nb n↔Bl x (n+d):=by
 rw[BlD.z];unfold Bl BlD;rw[um h.n13 0 nb 0]
def Al(Q:Nd ->Prop)(x:Tr):Prop:=∀m∈row x,Q m
def lu(Q:Nd ->Prop)(l:List Tr):Prop:=∀m∈rows l,Q m
theorem lw{Q:Nd ->Prop}{n:Nd}{ks:List Tr}:Al Q (.mk n ks)↔Q n/\lu Q ks:=by simp[Al,lu,row]
theorem nF{Q:Nd ->Prop}{x:Tr}{r:List Tr}:lu Q (x::r)↔Al Q x/\lu Q r:=by
 unfold lu Al;simp only[rows,JW];exact⟨λh=>⟨λm a=>h m (.inl a),λm a=>h m (.inr a)⟩,λh m a=>a.elim (h.1 m) (h.2 m)⟩
theorem xI{Q:Nd ->Prop}:∀{l:List Tr} {x:Tr},lu Q l ->x∈l ->Al Q x
 |y::r,x,h,a=>by
  rw[nF]at h;rcases List.mem_cons.1 a with rfl|a
  ·exact h.1
  ·exact xI h.2 a
theorem Al.mono{Q R:Nd ->Prop}{x:Tr}(h:Al Q x)(a:∀m,Q m ->R m):Al R x:=λm b=>a m (h m b)
section
variable{h:Int ->Nd ->Option Tr}{Q:Nd ->Prop}
mutual
theorem Ax':∀(x:Tr) (d nb:Int) (y:Tr),(∀m∈row x,m.op=1 ->∀d z,h d m=some z ->Al Q z) ->Al Q x ->gT h x d nb=some y ->Al Q y
 | .mk n ks,d,nb,y,c,a,e=>by
  simp only[gT]at e;split at e
  ·rename_i h1
   exact c n (by simp[row]) h1 d y e
  ·split at e
   ·cases e
   ·rename_i b f
    obtain rfl:=JB e;rw[lw]at a ⊢;exact⟨a.1,DC' ks n nb 0 d b (λm g=>c m (by simp[row,g])) a.2 f⟩
theorem DC':∀(ks:List Tr) (n:Nd) (nb k d:Int) (a:List Tr),(∀m∈rows ks,m.op=1 ->∀d z,h d m=some z ->Al Q z) ->lu Q ks ->gK h ks n nb k d=some a ->lu Q a
 |[],n,nb,k,d,a,c,b,e=>by
  simp only[gK,QZ]at e;subst e;exact b
 |x::r,n,nb,k,d,a,c,b,e=>by
  simp only[gK]at e;split at e
  ·cases e
  rename_i y g;split at e
  ·cases e
  rename_i r' hr;obtain rfl:=JB e;rw[nF]at b ⊢;exact⟨Ax' x _ _ y (λm f=>c m (by simp[rows,f])) b.1 g,DC' r n nb (k+1) d r' (λm f=>c m (by simp[rows,f])) b.2 hr⟩
end
mutual
theorem uo{M:Int}(b:∀d n y,h d n=some y ->n.op=1 ->aw n=true ->Ok .tm y):∀(x:Tr) (s:Md) (d nb:Int) (y:Tr),okT cnt nx x s ->(∀q∈varsT x d nb,∀m:Nd,m.op=1 ->aw m=true ->m.a=q.1 ->∀z,h q.2 m=some z ->Bl z (M+q.2)) ->gT h x d nb=some y ->BlD y d nb M
 | .mk n ks,s,d,nb,y,k,i,e=>by
  obtain⟨hc,o⟩:=k;simp only[gT]at e;split at e
  ·rename_i a
   have j:aw n=true:=by
    cases s with
    |tm=>exact(eS hc).1
    |fn=>exact(oL hc).1
    |am=>
     simp only[cnt]at hc;split at hc
     ·rename_i q
      exact q.2
     ·cases hc
   rw[(b d n y e a j).bld];exact i (n.a,d) (by simp[varsT,a]) n a j rfl y e
  ·rename_i a
   split at e
   ·cases e
   ·rename_i f g
    obtain rfl:=JB e;have:=CZ b ks n s nb 0 d 0 f o (λq c=>i q (by simpa[varsT,a]using c)) g;intro q c;rw[varsT,KY a]at c;exact this q c
theorem CZ{M:Int}(c:∀d n y,h d n=some y ->n.op=1 ->aw n=true ->Ok .tm y):∀(ks:List Tr) (n:Nd) (s:Md) (nb k d:Int) (j:Nat) (a:List Tr),bH cnt nx ks n s j ->(∀q∈varsK ks n nb k d,∀m:Nd,m.op=1 ->aw m=true ->m.a=q.1 ->∀z,h q.2 m=some z ->Bl z (M+q.2)) ->gK h ks n nb k d=some a ->∀q∈varsK a n nb k d,q.1-q.2<M
 |[],n,s,nb,k,d,j,a,f,g,e=>by
  simp only[gK,QZ]at e;subst e;intro q b;simp[varsK]at b
 |x::r,n,s,nb,k,d,j,a,f,g,e=>by
  obtain⟨f,hr⟩:=f;simp only[gK]at e;split at e
  ·cases e
  rename_i y o;split at e
  ·cases e
  rename_i p i;obtain rfl:=JB e;have t:=uo c x (nx s n j) _ _ y f (λq b=>g q (by simp[varsK,b])) o;have u:=CZ c r n s nb (k+1) d (j+1) p hr (λq b=>g q (by simp[varsK,b])) i;intro q b;simp only[varsK,JW]at b;exact b.elim (t q) (u q)
end
end
theorem C4{x:Tr}(f:Ok .tm x)(i:dR x){b n:Int}(j:0<=b)(hb:b<=500000)(h:Bl x n):Bl (aG x b 0) (n+b):=by
 have:=uo (h:=fE b 0) (M:=n+b) (λd m y e c a=>xv j a c e) x .tm 0 0 _ f.1 (λq g m c a k z e=>by
  have g:=h q g;simp only[fE]at e;split at e
  ·split at e
   ·cases e
   ·obtain rfl:=JB e
    intro p a;simp only[varsT,c,if_true,JJ,JZ,or_false]at a;subst a;simp only;omega
  ·obtain rfl:=JB e
   intro p a;simp only[varsT,c,if_true,JJ,JZ,or_false]at a;subst a;simp only;omega) (ms f i hb)
 exact this
theorem xJ{Q:Nd ->Prop}(c:∀m:Nd,m.op=1 ->Q m){x:Tr}(i:Ok .tm x)(j:dR x){b f:Int}(hb:b<=500000)(h:Al Q x):Al Q (aG x b f):=
 Ax' x 0 0 _ (λm n g d z e=>by
  simp only[fE]at e;intro k a;split at e
  ·split at e
   ·cases e
   ·obtain rfl:=JB e
    simp only[row,rows,JJ,JZ,or_false]at a;subst a;exact c _ g
  ·obtain rfl:=JB e
   simp only[row,rows,JJ,JZ,or_false]at a;subst a;exact c _ g) h (ms i j hb)
theorem IS{Q:Nd ->Prop}(a:∀m:Nd,m.op=1 ->Q m){x:Tr}(c:Ok .tm x)(d:dR x)(b:Int)(h:Al Q x):Al Q (kw x b):=by
 unfold kw;split
 ·rename_i g
  exact xJ a c d g.2 h
 ·exact h
theorem IT{Q:Nd ->Prop}(b:∀m:Nd,m.op=1 ->Q m){x u:Tr}(f:Ok .tm x)(g:Ok .tm u)(i:dR u){v:Int}(h:Al Q x)(j:Al Q u):Al Q (fH x u v):=
 Ax' x 0 0 _ (λm n c d z e=>by
  simp only[fG]at e;split at e
  ·obtain rfl:=JB e
   exact IS b g i _ j
  ·intro k a
   split at e
   ·obtain rfl:=JB e
    simp only[row,rows,JJ,JZ,or_false]at a;subst a;exact b _ c
   ·obtain rfl:=JB e
    simp only[row,rows,JJ,JZ,or_false]at a;subst a;exact b _ c) h (pJ f v)
theorem IU{x u:Tr}(g:Ok .tm x)(j:Ok .tm u)(k:dR u)(hl:(row x).length<=4096){v n:Int}(A:0<=v)(B:v<=300000)(D:0<=n)(h:Bl x (n+1+v))(s:Bl u n):Bl (fH x u v) (n+v):=by
 have i:=fj' x .tm 0 0 g.1 Uo Uo Uo;have:=uo (M:=n+v) (h:=fG u v) (λd m y e f a=>by
   have c:aI m.a 0 1048576=true/\m.b=0:=by simpa[aw,f]using a
   have o:=dI.1 c.1;simp only[fG]at e;split at e
   ·obtain rfl:=JB e
    exact CT j k _
   ·split at e
    ·obtain rfl:=JB e
     exact oN (by simpa using f) Us Us c.2
    ·obtain rfl:=JB e
     exact oN f o.1 o.2 c.2) x .tm 0 0 _ g.1 (λq r m f a E z e=>by
  have t:=h q r;have F:=i q r;simp only[fG]at e;split at e
  ·obtain rfl:=JB e
   unfold kw;rw[KX Uo];have:=C4 j k (b:=v+q.2) Uo Uo s;exact this.mono Uo
  ·split at e
   ·obtain rfl:=JB e
    intro p a;simp only[varsT,f,if_true,JJ,JZ,or_false]at a;subst a;simp only;omega
   ·obtain rfl:=JB e
    intro p a;simp only[varsT,f,if_true,JJ,JZ,or_false]at a;subst a;simp only;omega) (pJ g v)
 exact this
def iB(l:List (Int×Int))(v:Int):Nat:=(l.filter λq=>decide (q.1-q.2=v)).length
theorem xK(v:Int):∀(l:List (Int×Int)) (s:Int×Int),(l.foldl (λs q=>if q.1-q.2=v then (s.1+1,max s.2 q.2)else s) s).1=s.1+iB l v
 |[],s=>by simp[iB]
 |q::r,s=>by
  simp only[List.foldl_cons,iB,List.filter_cons];rw[xK v r]
  by_cases e:q.1-q.2=v
  ·simp[e,iB];omega
  ·simp[e,iB]
theorem IV(l m:List (Int×Int))(v:Int):iB (l++m) v=iB l v+iB m v:=by simp[iB]
section
variable{h:Int ->Nd ->Option Tr}{v:Int}{L:Nat}
mutual
theorem C5(f:∀d n y,h d n=some y ->(row y).length<=1 \/(n.a-d=v/\(row y).length<=L))(i:1<=L):∀(x:Tr) (d nb:Int) (y:Tr) (s:Md),okT cnt nx x s ->gT h x d nb=some y ->((row y).length:Int)<=(row x).length+iB (varsT x d nb) v*((L:Int)-1)
 | .mk n ks,d,nb,y,s,j,e=>by
  obtain⟨hc,k⟩:=j;simp only[gT]at e;split at e
  ·rename_i a
   have:ks=[]:=List.length_eq_zero_iff.1 (pG hc a);subst this;rcases f d n y e with g|⟨g,m⟩
   ·simp only[varsT,KX a,row,rows,iB,List.filter_cons,List.filter_nil,List.length_singleton]
    split
    ·simp;omega
    ·simp;omega
   ·simp only[varsT,KX a,row,rows,iB,List.filter_cons,List.filter_nil,List.length_singleton]
    simp[g];omega
  ·rename_i a
   split at e
   ·cases e
   ·rename_i b c
    obtain rfl:=JB e;have:=C6 f i ks n nb 0 d b s 0 k c;simp only[varsT,KY a,row,JV];omega
theorem C6(f:∀d n y,h d n=some y ->(row y).length<=1 \/(n.a-d=v/\(row y).length<=L))(g:1<=L):∀(ks:List Tr) (n:Nd) (nb k d:Int) (a:List Tr) (s:Md) (j:Nat),bH cnt nx ks n s j ->gK h ks n nb k d=some a ->((rows a).length:Int)<=(rows ks).length+iB (varsK ks n nb k d) v*((L:Int)-1)
 |[],n,nb,k,d,a,s,j,b,e=>by
  simp only[gK,QZ]at e;subst e;simp[rows,varsK,iB]
 |x::r,n,nb,k,d,a,s,j,b,e=>by
  obtain⟨b,hr⟩:=b;simp only[gK]at e;split at e
  ·cases e
  rename_i y i;split at e
  ·cases e
  rename_i m c;obtain rfl:=JB e;have o:=C5 f g x _ _ y _ b i;have p:=C6 f g r n nb (k+1) d m s (j+1) hr c;simp only[rows,varsK,JK,IV,Int.natCast_add,Int.add_mul];omega
end
end
end Tm
namespace Go.Q
theorem uq{x u:Tr}(a:Ok .tm x)(b:Ok .tm u)(c:dR u){v:Int}(h:gN x u v=false):(row (fH x u v)).length<=4096:=by
 have i:=aR u;have:=C5 (h:=fG u v) (v:=v) (L:=(row u).length) (λd n y e=>by
  simp only[fG]at e;split at e
  ·rename_i g
   obtain rfl:=JB e;exact .inr ⟨Uo,CW b c _⟩
  ·split at e
   ·obtain rfl:=JB e
    exact .inl (by simp[row,rows])
   ·obtain rfl:=JB e
    exact .inl (by simp[row,rows])) Uo x 0 0 _ .tm a.1 (pJ a v)
 have f:=xK v (varsT x 0 0) (0,0);unfold gN at h;have h:=of_decide_eq_false h;unfold oP at h;rw[f]at h;simp only[Int.zero_add]at h;omega
structure Ft(Q:Nd ->Prop)(N:Int)(x:Tr):Prop where
 ok:Ok .tm x
 len:(row x).length<=4096
 bl:Bl x N
 al:Al Q x
structure Qk(Q:Nd ->Prop):Prop where
 var:∀m:Nd,m.op=1 ->Q m
 app:∀m:Nd,m.op=4 \/m.op=5 \/m.op=6 \/m.op=2 \/m.op=12 ->Q m
section
variable{Q:Nd ->Prop}{N:Int}{x:Tr}
theorem Ft.mono(h:Ft Q N x){M:Int}(hm:N<=M):Ft Q M x:=⟨h.ok,h.len,h.bl.mono hm,h.al⟩
theorem Ft.wk(h:Ft Q N x){R:Nd ->Prop}(a:∀m,Q m ->R m):Ft R N x:=⟨h.ok,h.len,h.bl,h.al.mono a⟩
theorem Ft.small(h:Ft Q N x)(b:N<=100000):dR x:=λq a=>by
 have c:=fj' x .tm 0 0 h.ok.1 Uo Uo Uo q a;have d:=h.bl q a;have:=h.len;omega
theorem Ft.lift(d:Qk Q)(h:Ft Q N x)(a:N<=100000){b:Int}(c:0<=b)(hb:b<=500000):Ft Q (N+b) (aG x b 0):=
 ⟨ug h.ok (h.small a) c hb,KQ (ui h.ok (h.small a) hb) h.len,C4 h.ok (h.small a) c hb h.bl,xJ d.var h.ok (h.small a) hb h.al⟩
theorem Ft.subst(e:Qk Q){u:Tr}{v:Int}(b:Ft Q (N+1+v) x)(a:Ft Q N u)(f:0<=N)(c:N<=100000)(d:0<=v)(g:v<=300000)(hb:gN x u v=false):Ft Q (N+v) (fH x u v):=
 ⟨xE b.ok a.ok (a.small c),uq b.ok a.ok (a.small c) hb,IU b.ok a.ok (a.small c) b.len d g f b.bl a.bl,IT e.var b.ok a.ok (a.small c) b.al a.al⟩
theorem xL{n:Nd}{nb:Int}:∀(ks:List Tr) (j:Int) (d:Int) (k:Nat) (y:Tr),ks[k]?=some y ->∀q∈varsT y (d+arC n nb (j+k)) n.b,q∈varsK ks n nb j d
 |x::r,j,d,0,y,h,q,a=>by
  simp only[List.getElem?_cons_zero,QZ]at h;subst h;simp only[varsK,JW];exact .inl (by simpa using a)
 |x::r,j,d,k+1,y,h,q,a=>by
  simp only[List.getElem?_cons_succ]at h;simp only[varsK,JW];refine .inr (xL r (j+1) d k y h q ?_);rw[show j+1+(k:Int)=j+((k+1:Nat):Int) by omega];exact a
theorem iW{n:Nd}{s:Md}:∀(ks:List Tr) (j k:Nat) (y:Tr),bH cnt nx ks n s j ->ks[k]?=some y ->okT cnt nx y (nx s n (j+k))
 |x::r,j,0,y,h,a=>by
  simp only[List.getElem?_cons_zero,QZ]at a;subst a;exact h.1
 |x::r,j,k+1,y,h,a=>by
  have:=iW r (j+1) k y h.2 (by simpa using a);rw[show j+(k+1)=j+1+k by omega];exact this
theorem dD':∀(ks:List Tr) (k:Nat) (y:Tr),eV' ks=true ->ks[k]?=some y ->gF' y=true
 |x::r,0,y,h,a=>by
  simp only[List.getElem?_cons_zero,QZ]at a;subst a;exact(oK h).1
 |x::r,k+1,y,h,a=>dD' r k y (oK h).2 (by simpa using a)
def kb(n:Nd)(k:Nat):Int:=if n.op=12 then (if k%2=1 then n.b else 0)else bi n k
theorem xc':∀(ks:List Tr),(∀k∈ks,k.ks.length=2) ->∀(i:Nat) (y:Tr),(ks.flatMap (·.ks))[i]?=some y ->∃f,ks[i/2]?=some f/\f.ks[i%2]?=some y
 |[],_,i,y,h=>by simp at h
 |f::r,b,i,y,h=>by
  simp only[List.flatMap_cons]at h;have c:=b f Ud
  by_cases j:i<2
  ·rw[QH Uo]at h
   refine⟨f,?_,?_⟩
   ·rw[show i/2=0 by omega];rfl
   ·rw[show i%2=i by omega];exact h
  ·rw[QU Uo,c]at h
   obtain⟨g,d,e⟩:=xc' r (λk a=>b k (by simp[a])) (i-2) y h;refine⟨g,?_,?_⟩
   ·rw[show i/2=(i-2)/2+1 by omega];exact d
   ·rw[show i%2=(i-2)%2 by omega];exact e
theorem C7{Q:Nd ->Prop}{ks:List Tr}{k:Nat}{y:Tr}(h:lu Q ks)(a:ks[k]?=some y):Al Q y:=xI h (JQ a)
theorem Ft.node{n:Nd}{ks:List Tr}(h:Ft Q N (.mk n ks)):Q n:=(lw.1 h.al).1
theorem Ft.var_lt{n:Nd}{ks:List Tr}(h:Ft Q N (.mk n ks))(h1:n.op=1):0<=n.a/\n.a<N/\ks=[]:=by
 have a:=h.ok.tm.1;have:=h.bl (n.a,0) (by simp[varsT,h1]);have b:=dn a;exact⟨b.2.2.1,by simpa using this,List.length_eq_zero_iff.1 (pG h.ok.kids.1 h1)⟩
theorem Ft.kid{n:Nd}{ks:List Tr}(h:Ft Q N (.mk n ks)){k:Nat}{y:Tr}(c:(kidsT (.mk n ks))[k]?=some y):Ft Q (N+kb n k) y:=by
 obtain⟨V,o,I⟩:=h.ok.kids;obtain⟨W,Z,p⟩:=h.ok.tm;have hl:=ig' (.mk n ks) y (JQ c);have K:=h.len;have M:=(lw.1 h.al).2;simp only[kidsT]at c;split at c
 ·simp at c
 rename_i O;have z:n.op≠1:=λz=>by
  have:=(h.var_lt z).2.2;subst this;split at c<;>simp at c
 have P:∀q∈varsK ks n 0 0 0,q.1-q.2<N:=λq d=>h.bl q (by simpa[varsT,z]using d);split at c
 ·rename_i b
  have r:∀(i:Nat) f,ks[i]?=some f ->Ok .fn f:=λi f r=>⟨by
   have:=iW ks 0 i f o r
   rwa [show nx Md.tm n (0+i)= .fn by simp[nx,O,b]]at this,dD' ks i f I r⟩
  have A:∀k∈ks,k.ks.length=2:=λf T=>by
   obtain⟨i,B⟩:=JH T;obtain⟨g,D,E,rfl,_⟩:=(r i f B).fn
   rfl
  obtain⟨f,j,a⟩:=xc' ks A k y c;obtain⟨g,D,E,rfl,e,U,s,t⟩:=(r _ f j).fn;have u:=(lw.1 (C7 M j)).2;have F:∀q∈varsT (.mk g [D,E]) 0 n.b,q.1-q.2<N:=λq d=>P q (xL ks 0 0 (k/2) _ j q (by
   rw[show (0:Int)+arC n 0 (0+((k/2:Nat):Int))=0 by rw[mr p];simp[bi,b]];exact d))
  have H:g.op≠1:=Uo
  simp only[varsT,KY H,varsK,JD,JW]at F;simp only[Tr.ks]at a;unfold kb;rw[KX b]
  by_cases m:k%2=1
  ·rw[m]at a
   simp only[List.getElem?_cons_succ,List.getElem?_cons_zero,QZ]at a;subst a;rw[KX m];refine⟨t,Uo,?_,(nF.1 (nF.1 u).2).1⟩;have:BlD E (0+arC g n.b (0+1)) g.b N:=λq d=>F q (.inr d);rw[t.bld]at this;refine this.mono ?_;simp[arC,e]
  ·rw[show k%2=0 by omega]at a
   simp only[List.getElem?_cons_zero,QZ]at a;subst a;rw[KY m];refine⟨s,Uo,?_,(nF.1 u).1⟩;have:BlD D (0+arC g n.b 0) g.b N:=λq d=>F q (.inl d);rw[s.bld]at this;refine this.mono ?_;simp[arC,e]
 ·rename_i b
  have S:Ok .tm y:=⟨by
   have:=iW ks 0 k y o c
   rwa [show nx Md.tm n (0+k)= .tm by simp[nx,O,b]]at this,dD' ks k y I c⟩
  refine⟨S,Uo,?_,C7 M c⟩;have:BlD y (0+arC n 0 (0+(k:Int))) n.b N:=λq d=>P q (xL ks 0 0 k y c q d);rw[S.bld]at this;refine this.mono ?_;unfold kb;rw[KY b,mr p];simp
theorem Ft.hd_args:∀(L:Nat) (x:Tr),(row x).length<=L ->Ft Q N x ->Ft Q N (headT x)/\∀y∈argsT x,Ft Q N y
 |0,x,hl,_=>by
  have:=aR x;omega
 |L+1,.mk n p,hl,h=>by
  by_cases b:n.op=6
  ·obtain⟨f,a,rfl,q,r⟩:=nD h.ok b
   have d:kidsT (.mk n [f,a])=[f,a]:=by simp[kidsT,b]
   have e:=h.kid (k:=0) (y:=f) (by rw[d];rfl);have g:=h.kid (k:=1) (y:=a) (by rw[d];rfl);have i:kb n 0=0:=by simp[kb,bi,b]
   have j:kb n 1=0:=by simp[kb,bi,b]
   rw[i]at e;rw[j]at g;simp only[Int.add_zero]at e g;have s:=ig' (.mk n [f,a]) f (by simp[d]);obtain⟨m,o⟩:=Ft.hd_args L f Uo e;rw[lq b,lr b];exact⟨m,λy c=>(List.mem_append.1 c).elim (o y) λc=>by
    obtain rfl:y=a:=by simpa using c
    exact g⟩
  ·rw[mu b,nE b]
   exact⟨h,λy c=>by cases c⟩
theorem Ft.head(h:Ft Q N x):Ft Q N (headT x):=(Ft.hd_args _ x (KJ _) h).1
theorem Ft.args(h:Ft Q N x):∀y∈argsT x,Ft Q N y:=(Ft.hd_args _ x (KJ _) h).2
theorem qq':∀(ys:List Tr) (x:Tr),Ok .tm x ->Bl x N ->(∀y∈ys,Ok .tm y/\Bl y N) ->Bl (ak' x ys) N
 |[],x,_,c,_=>c
 |y::r,x,e,c,d=>by
  rw[ak'];have b:=d y Ud;refine qq' r _ (eJ' [y] x e (by simpa using b.1)) ?_ (λz f=>d z (by simp[f]));intro q a;simp only[varsT,appN,varsK,JD]at a;rw[KY UO]at a;simp only[JW]at a;rcases a with a|a
  ·exact c q a
  ·exact b.2 q a
theorem IW{ys:List Tr}{x:Tr}(b:Qk Q)(c:Al Q x)(d:∀y∈ys,Al Q y):Al Q (ak' x ys):=by
 intro m a;rw[bO']at a;rcases List.mem_append.1 a with a|a
 ·obtain rfl:=(List.mem_replicate.1 a).2
  exact b.app _ (by simp[appN])
 ·rcases List.mem_append.1 a with a|a
  ·exact c m a
  ·have:∀(l:List Tr),(∀y∈l,Al Q y) ->m∈rows l ->Q m:=by
    intro l
    induction l with
    |nil=>intro _ h;simp[rows]at h
    |cons y l e=>
     intro h a;simp only[rows,JW]at a;exact a.elim (h y Ud m) (e λz f=>h z (by simp[f]))
   exact this ys d a
theorem Ft.apply(c:Qk Q){ys:List Tr}(a:Ft Q N x)(b:∀y∈ys,Ft Q N y)(hl:(row (ak' x ys)).length<=4096):Ft Q N (ak' x ys):=
 ⟨eJ' ys x a.ok λy h=>(b y h).ok,hl,qq' ys x a.ok a.bl λy h=>⟨(b y h).ok,(b y h).bl⟩,IW c a.al λy h=>(b y h).al⟩
theorem C8{op:Int}(f:op=4 \/op=5):∀(ys:List Tr) (x:Tr) (N:Int),Ok .tm x ->Bl x (N+ys.length) ->(∀(i:Nat) y,ys[i]?=some y ->Ok .tm y/\Bl y (N+i)) ->Bl (eU op ys x) N
 |[],x,N,_,g,_=>g.mono Ud
 |d::r,x,N,e,g,j=>by
  obtain⟨h1,k⟩:=j 0 d rfl;have u:=C8 f r x (N+1) e (g.mono Uk) (λi y m=>by
   obtain⟨a,b⟩:=j (i+1) y (by simpa using m);exact⟨a,b.mono Uo⟩)
  have o:Ok .tm (eU op r x):=xG f r x e λz A=>by
   obtain⟨i,m⟩:=JH A;exact(j (i+1) z (by simpa using m)).1
  rw[eU];intro q c;have p:op≠1:=Uo
  have s:op≠13:=Uo
  simp only[varsT,varsK,JD,KY p,JW,arC,KY s]at c;rcases c with c|c
  ·have:=k.mono (show N+((0:Nat):Int)<=N+0 by omega)
   have t:bi ⟨op,0,0⟩ 0=0:=by rcases f with rfl|rfl<;>decide
   rw[t]at c;exact(this.mono Uo) q c
  ·have t:bi ⟨op,0,0⟩ (0+1)=1:=by rcases f with rfl|rfl<;>decide
   rw[t]at c;exact(o.bld (d:=0+1) (nb:=0) (n:=N)).2 (u.mono Uo) q c
theorem C9{op:Int}(b:Qk Q)(e:op=4 \/op=5):∀(ys:List Tr) (x:Tr),Al Q x ->(∀y∈ys,Al Q y) ->Al Q (eU op ys x)
 |[],x,a,_=>a
 |d::r,x,a,c=>by
  rw[eU,lw,nF,nF];refine⟨b.app _ Us,c d Ud,C9 b e r x a (λz f=>c z (by simp[f])),λm hm=>by simp[rows]at hm⟩
theorem Ft.bind(e:Qk Q){op:Int}(d:op=4 \/op=5){ys:List Tr}(b:Ft Q (N+ys.length) x)(c:∀(i:Nat) y,ys[i]?=some y ->Ft Q (N+i) y)(hl:(row (eU op ys x)).length<=4096):Ft Q N (eU op ys x):=
 ⟨xG d ys x b.ok λy h=>by
   obtain⟨i,a⟩:=JH h;exact(c i y a).ok,hl,C8 d ys x N b.ok b.bl λi y a=>⟨(c i y a).ok,(c i y a).bl⟩,C9 e d ys x b.al λy h=>by
   obtain⟨i,a⟩:=JH h;exact(c i y a).al⟩
theorem Ft.one{n:Nd}(d:aw n=true)(h3:n.op≠3)(b:n.op≠13)(h2:n.op≠2)(e:bw n=0)(a:Q n)(f:n.op=1 ->n.a<N):Ft Q N (.mk n []):=
 ⟨⟨⟨by simp[cnt,d,h3,b,h2,e],trivial⟩,by simp[gF',eV',h2]⟩,by simp[row,rows],λq a=>by
   simp only[varsT]at a;split at a
   ·rename_i g
    simp only[JJ,JZ,or_false]at a;subst a;have:=f g;simp only;omega
   ·simp[varsK]at a,λm c=>by
   simp only[row,rows,JJ,JZ,or_false]at c;subst c;exact a⟩
def varX(a:Int):Tr:=.mk ⟨1,a,0⟩ []
theorem Ft.varX(b:Qk Q){a:Int}(c:0<=a)(ha:a<N)(h1:a<=1048576):Ft Q N (varX a):=
 Ft.one (by simp[aw,aI,c,h1]) Ud Ud Ud (by simp[bw]) (b.var _ rfl) λ_=>ha
end
end Go.Q
namespace Lv
structure Atom where
 var:Int
 add:Int
deriving Inhabited,DecidableEq
structure aV where
 low:Int
 add:Int
 high:Int
deriving Inhabited,DecidableEq
abbrev G:=Int ->Int ->Option Int
def putG(g:G)(x y v:Int):G:=λa b=>if a=x/\b=y then some v else g a b
def cg(o:Option Int)(v:Int):Int:=match o with
 |none=>v
 |some old=>if old<v then v else old
def dJ(g:G)(x y v:Int):G:=putG g x y (cg (g x y) v)
def aT{α:Type}(f:Nat ->α ->α):Nat ->α ->α
 |0,a=>a
 |k+1,a=>f k (aT f k a)
def ly(n:Nat):G:=aT (λv g=>putG (putG g v v 0) 0 v 0) n (λ_ _=>none)
def da(vars:Int)(o:aV):Bool:=decide (o.low<0 \/vars<o.low \/o.high<0 \/vars<o.high \/o.add< -1000 \/1000<o.add)
def iX(vars:Int):List aV ->G ->Option G
 |[],g=>some g
 |o::r,g=>if da vars o then none else iX vars r (dJ g o.low o.high o.add)
def step(m low high:Nat)(g:G):G:=match g low m,g m high with
 |some a,some b=>dJ g low high (a+b)
 |_,_=>g
def ky(n m low:Nat)(g:G):G:=aT (step m low) n g
def pass(n m:Nat)(g:G):G:=aT (ky n m) n g
def pL(g:G)(v:Nat):Bool:=decide (0<(g v v).getD 0)
def jq(n:Nat)(g:G):Bool:=(List.range n).any (pL g)
def jN(n:Nat):Nat ->Nat ->G ->Option G
 |0,_,g=>some g
 |f+1,m,g=>if jq n (pass n m g)then none else jN n f (m+1) (pass n m g)
def fc(vars:Int)(os:List aV):Except Int G:=
 if vars<0 \/16<vars then .error 1
 else if 64<os.length then .error 5
 else match iX vars os (ly (vars.toNat+1))with
  |none=>.error 1
  |some g=>match jN (vars.toNat+1) (vars.toNat+1) 0 g with
   |none=>.error 7
   |some g'=>.ok g'
def non:Int:=-1000000000
def bJ(v:Nat)(s:List Int×Bool):List Int×Bool:=
 if s.1.getD 0 0≠non/\s.1.getD v 0<s.1.getD 0 0 then (s.1.set v (s.1.getD 0 0),true)else s
def cC(s:List Int×Bool)(o:aV):List Int×Bool:=
 if s.1.getD o.low.toNat 0≠non/\s.1.getD o.high.toNat 0<s.1.getD o.low.toNat 0+o.add then (s.1.set o.high.toNat (s.1.getD o.low.toNat 0+o.add),true)else s
def cd(n:Nat)(os:List aV)(d:List Int):List Int×Bool:=os.foldl cC (aT bJ n (d,false))
def mw(n:Nat)(os:List aV):Nat ->List Int ->Option (List Int)
 |0,_=>none
 |r+1,d=>if (cd n os d).2 then mw n os r (cd n os d).1 else some (cd n os d).1
def kz(n:Nat)(os:List aV)(low:Nat):Option (List Int):=mw n os (n+1) ((List.replicate n non).set low 0)
def iC(vars:Int)(os:List aV):Int:=
 if vars<0 \/16<vars then 1
 else if 64<os.length then 5
 else if os.any (da vars)then 1
 else if (List.range (vars.toNat+1)).all (λv=>(kz (vars.toNat+1) os v).isSome)then 0 else 7
def Rg(n:Nat)(x:Int):Prop:=0<=x/\x<n
inductive Edge (n:Nat) (os:List aV):Int ->Int ->Int ->Prop
 |zero (y:Int) (h:Rg n y):Edge n os 0 y 0
 |self (y:Int) (h:Rg n y):Edge n os y y 0
 |ord (o:aV) (h:o∈os) (h1:Rg n o.low) (h2:Rg n o.high):Edge n os o.low o.high o.add
inductive Walk (n:Nat) (os:List aV):Int ->Int ->Int ->Prop
 |nil (x:Int) (h:Rg n x):Walk n os x x 0
 |snoc {x y z p q:Int} (h:Walk n os x y p) (e:Edge n os y z q):Walk n os x z (p+q)
theorem Walk.trans{n:Nat}{os:List aV}{x y z p q:Int}(h:Walk n os x y p)(k:Walk n os y z q):Walk n os x z (p+q):=by
 induction k with
 |nil b=>simpa using h
 |snoc k e a=>rw[<- Int.add_assoc];exact .snoc a e
theorem Walk.one{n:Nat}{os:List aV}{x y p:Int}(e:Edge n os x y p)(a:Rg n x):Walk n os x y p:=by
 have:=Walk.snoc (Walk.nil x a) e
 simpa using this
def Ok(n:Nat)(os:List aV)(g:G):Prop:=∀x y v,g x y=some v ->Rg n x/\Rg n y/\Walk n os x y v
def Le(g g':G):Prop:=∀x y v,g x y=some v ->∃v',g' x y=some v'/\v<=v'
theorem Le.refl(g:G):Le g g:=λ_ _ v h=>⟨v,h,Int.le_refl _⟩
theorem Le.trans{a b c:G}(h:Le a b)(k:Le b c):Le a c:=λx y v e=>by
 obtain⟨f,g,j⟩:=h x y v e;obtain⟨d,i,m⟩:=k x y f g;exact⟨d,i,Uo⟩
theorem more_cases(o:Option Int)(v:Int):(cg o v=v/\∀u,o=some u ->u<=v) \/(o=some (cg o v)/\v<=cg o v):=by
 unfold cg;split
 ·exact .inl ⟨rfl,λu h=>by cases h⟩
 ·rename_i a
  split
  ·refine .inl ⟨rfl,λu h=>?_⟩
   have:a=u:=by simpa using h
   omega
  ·exact .inr ⟨rfl,Uo⟩
theorem Da(g:G)(x y v:Int):∃u,dJ g x y v x y=some u/\v<=u:=by
 refine⟨cg (g x y) v,by simp[dJ,putG],?_⟩;rcases more_cases (g x y) v with ⟨h,_⟩|⟨_,h⟩<;>omega
theorem rn(g:G)(x y v a b:Int)(h:¬ (a=x/\b=y)):dJ g x y v a b=g a b:=by simp[dJ,putG,h]
theorem raise_cases(g:G)(x y v a b u:Int)(h:dJ g x y v a b=some u):g a b=some u \/(a=x/\b=y/\u=v):=by
 by_cases e:a=x/\b=y
 ·obtain⟨rfl,rfl⟩:=e
  simp only[dJ,putG,and_self,if_true,QZ]at h;rcases more_cases (g a b) v with ⟨c,_⟩|⟨c,_⟩
  ·exact .inr ⟨rfl,rfl,Uo⟩
  ·exact .inl (by rw[c,h])
 ·rw[rn _ _ _ _ _ _ e]at h;exact .inl h
theorem Db(g:G)(x y v:Int):Le g (dJ g x y v):=by
 intro a b u c
 by_cases e:a=x/\b=y
 ·obtain⟨rfl,rfl⟩:=e
  refine⟨cg (g a b) v,by simp[dJ,putG],?_⟩;rcases more_cases (g a b) v with ⟨d,f⟩|⟨d,_⟩
  ·have:=f u c;omega
  ·rw[c]at d ⊢;have:u=cg (some u) v:=by simpa using d
   omega
 ·exact⟨u,by rw[rn _ _ _ _ _ _ e];exact c,Int.le_refl _⟩
theorem Dc{n:Nat}{os:List aV}{g:G}(c:Ok n os g){x y v:Int}(d:Rg n x)(e:Rg n y)(f:Walk n os x y v):Ok n os (dJ g x y v):=by
 intro a b u i;rcases raise_cases g x y v a b u i with h|⟨rfl,rfl,rfl⟩
 ·exact c a b u h
 ·exact⟨d,e,f⟩
theorem jr{α:Type}{f:Nat ->α ->α}(p:Nat ->α ->Prop){a:α}(b:p 0 a):∀k,(∀i,i<k ->∀x,p i x ->p (i+1) (f i x)) ->p k (aT f k a)
 |0,_=>b
 |k+1,h=>h k (Nat.lt_succ_self k) _ (jr p b k λi hi=>h i (Nat.lt_succ_of_lt hi))
theorem ut{n k:Nat}(h:k<n):Rg n (k:Int):=⟨Uo,Uo⟩
theorem pN(n:Nat):∀k,k<=n ->∀x y v,aT (λv g=>putG (putG g v v 0) 0 v 0) k (λ_ _=>none) x y=some v↔(v=0/\((x=y/\Rg k x) \/(x=0/\Rg k y)))
 |0,_,x,y,v=>by simp[aT,Rg]<;>omega
 |k+1,b,x,y,v=>by
  have a:=pN n k Uo x y v;simp only[aT,putG];unfold Rg at *
  split
  ·rename_i e;simp only[QZ];omega
  ·split
   ·rename_i e;simp only[QZ];omega
   ·rename_i c d;rw[a];omega
theorem Dd(n:Nat)(os:List aV):Ok n os (ly n):=by
 intro x y v h;obtain⟨rfl,b|b⟩:=(pN n n (KJ _) x y v).1 h
 ·obtain⟨rfl,a⟩:=b;exact⟨a,a,.one (.self _ a) a⟩
 ·obtain⟨rfl,a⟩:=b
  have c:Rg n 0:=by unfold Rg at *;omega
  exact⟨c,a,.one (.zero _ a) c⟩
theorem step_cases(m low high:Nat)(g:G):(∃a b,g low m=some a/\g m high=some b/\step m low high g=dJ g low high (a+b)) \/step m low high g=g:=by
 unfold step;split
 ·rename_i a b c d;exact .inl ⟨a,b,c,d,rfl⟩
 ·exact .inr rfl
theorem De{m low high:Nat}{g:G}{a b:Int}(ha:g low m=some a)(hb:g m high=some b):step m low high g=dJ g low high (a+b):=by
 unfold step;rw[ha,hb]
theorem IX{n:Nat}{os:List aV}{g:G}(c:Ok n os g)(m low high:Nat):Ok n os (step m low high g):=by
 unfold step;split
 ·rename_i a b d e
  obtain⟨f,o,i⟩:=c _ _ _ d;obtain⟨p,j,k⟩:=c _ _ _ e;exact Dc c f j (i.trans k)
 ·exact c
theorem ro(m low high:Nat)(g:G):Le g (step m low high g):=by
 unfold step;split
 ·exact Db _ _ _ _
 ·exact Le.refl _
theorem xM{n:Nat}{os:List aV}{g:G}(a:Ok n os g)(m:Nat):Ok n os (pass n m g):=
 jr (λ_ g=>Ok n os g) a n λi _ _ b=>jr (λ_ g=>Ok n os g) b n λj _ _ c=>IX c m i j
theorem uu(n m:Nat)(g:G):Le g (pass n m g):=
 jr (λ_ a=>Le g a) (Le.refl g) n λi _ _ b=>jr (λ_ a=>Le g a) b n λj _ y c=>c.trans (ro m i j y)
theorem IY{n m:Nat}{g:G}(A:g m m=some 0):
  ∀x y v,pass n m g x y=some v ->g x y=some v \/∃a b,g x m=some a/\g m y=some b/\v=a+b:=by
 have u:∀(d:G),(∀i,d i m=g i m) ->(∀i,d m i=g m i) ->(∀x y v,d x y=some v ->g x y=some v \/∃a b,g x m=some a/\g m y=some b/\v=a+b) ->∀k c:Nat,
   (∀i,step m k c d i m=g i m)/\(∀i,step m k c d m i=g m i)/\∀x y v,step m k c d x y=some v ->g x y=some v \/∃a b,g x m=some a/\g m y=some b/\v=a+b:=by
  intro d q r t k c;rcases step_cases m k c d with ⟨a,b,B,z,e⟩|e
  ·rw[e]
   have o:=B;have p:=z;rw[q]at o;rw[r]at p;refine⟨λi=>?_,λi=>?_,λx y v D=>?_⟩
   ·by_cases e:i=k/\(m:Int)=c
    ·obtain⟨rfl,E⟩:=e
     rw[<- E]at p ⊢;rw[A]at p;have:b=0:=by simpa using p.symm
     subst this;have s:d k m=some a:=B;simp only[dJ,putG,and_self,if_true,s,cg,Int.add_zero,Int.lt_irrefl,if_false];rw[<- q];exact s.symm
    ·rw[rn _ _ _ _ _ _ e];exact q i
   ·by_cases e:(m:Int)=k/\i=c
    ·obtain⟨F,rfl⟩:=e
     rw[<- F]at o ⊢;rw[A]at o;have:a=0:=by simpa using o.symm
     subst this;simp only[dJ,putG,and_self,if_true,z,cg,Int.zero_add,Int.lt_irrefl,if_false];rw[<- r];exact z.symm
    ·rw[rn _ _ _ _ _ _ e];exact r i
   ·rcases raise_cases _ _ _ _ _ _ _ D with h|⟨rfl,rfl,rfl⟩
    ·exact t _ _ _ h
    ·exact .inr ⟨a,b,o,p,rfl⟩
  ·rw[e];exact⟨q,r,t⟩
 have:=jr (f:=ky n m) (λ_ d=>(∀i,d i m=g i m)/\(∀i,d m i=g m i)/\∀x y v,d x y=some v ->g x y=some v \/∃a b,g x m=some a/\g m y=some b/\v=a+b)
  (a:=g) ⟨λ_=>rfl,λ_=>rfl,λ_ _ _ h=>.inl h⟩ n λi _ _ ⟨q,r,t⟩=>
   jr (f:=step m i) (λ_ d=>(∀i,d i m=g i m)/\(∀i,d m i=g m i)/\∀x y v,d x y=some v ->g x y=some v \/∃a b,g x m=some a/\g m y=some b/\v=a+b)
    ⟨q,r,t⟩ n λj _ y ⟨H,I,K⟩=>u y H I K i j
 exact this.2.2
theorem uv{n m:Nat}{g:G}{x y a b:Int}(f:Rg n x)(F:Rg n y)(ha:g x m=some a)(hb:g m y=some b):∃v,pass n m g x y=some v/\a+b<=v:=by
 obtain⟨i,rfl⟩:=Int.eq_ofNat_of_zero_le f.1;obtain⟨j,rfl⟩:=Int.eq_ofNat_of_zero_le F.1;have O:i<n:=by have:=f.2;omega
 have P:j<n:=by have:=F.2;omega
 have o:∀(d:G),Le g d ->∀k,j<k ->∃v,aT (step m i) k d i j=some v/\a+b<=v:=by
  intro d t k
  induction k with
  |zero=>omega
  |succ k A=>
   intro S
   by_cases e:j=k
   ·subst e
    have c:Le g (aT (step m i) j d):=jr (λ_ x=>Le g x) t j λq _ x f=>f.trans (ro m i q x);obtain⟨H,p,I⟩:=c _ _ _ ha;obtain⟨K,T,V⟩:=c _ _ _ hb;simp only[aT];have:step m i j (aT (step m i) j d)=dJ (aT (step m i) j d) i j (H+K):=by
     exact De p T
    rw[this];obtain⟨u,U,M⟩:=Da (aT (step m i) j d) i j (H+K);exact⟨u,U,Uo⟩
   ·obtain⟨v,B,c⟩:=A Uo
    obtain⟨D,p,I⟩:=ro m i k _ _ _ _ B;exact⟨D,p,Uo⟩
 have s:∀k,i<k ->∃v,aT (ky n m) k g i j=some v/\a+b<=v:=by
  intro k
  induction k with
  |zero=>omega
  |succ k A=>
   intro S
   by_cases e:i=k
   ·subst e
    have c:Le g (aT (ky n m) i g):=jr (λ_ x=>Le g x) (Le.refl g) i λq _ _ f=>jr (λ_ z=>Le g z) f n λr _ z E=>E.trans (ro m q r z);exact o _ c n P
   ·obtain⟨v,B,c⟩:=A Uo
    have:Le (aT (ky n m) k g) (ky n m k (aT (ky n m) k g)):=jr (λ_ z=>Le (aT (ky n m) k g) z) (Le.refl _) n λr _ z E=>E.trans (ro m k r z);obtain⟨D,p,I⟩:=this _ _ _ B;exact⟨D,p,Uo⟩
 exact s n O
def Tri(m:Nat)(g:G):Prop:=∀(k:Nat) x y a b,k<m ->g x k=some a ->g k y=some b ->∃v,g x y=some v/\a+b<=v
theorem Df{n:Nat}{g:G}(h:jq n g=false){v:Nat}(a:v<n){u:Int}(b:g v v=some u):u<=0:=by
 unfold jq at h;have:=List.any_eq_false.1 h v (List.mem_range.2 a);unfold pL at this;simp[b]at this;omega
theorem IZ{n:Nat}{g:G}(h:jq n g=true):∃v:Nat,v<n/\∃u,g v v=some u/\0<u:=by
 unfold jq at h;obtain⟨v,b,h⟩:=List.any_eq_true.1 h;refine⟨v,List.mem_range.1 b,?_⟩;unfold pL at h;cases a:g v v with
 |none=>simp[a]at h
 |some u=>simp[a]at h;exact⟨u,rfl,h⟩
def Diag(n:Nat)(g:G):Prop:=∀v:Nat,v<n ->∃u,g v v=some u/\0<=u
theorem Diag.le{n:Nat}{g a:G}(h:Diag n g)(k:Le g a):Diag n a:=λv b=>by
 obtain⟨u,c,f⟩:=h v b;obtain⟨d,e,i⟩:=k _ _ _ c;exact⟨d,e,Uo⟩
theorem I0{n m:Nat}{os:List aV}(hm:m<n){g:G}(W:Ok n os g)(Z:Diag n g)(E:Tri m g)(hc:jq n (pass n m g)=false):Tri (m+1) (pass n m g):=by
 have F:g m m=some 0:=by
  obtain⟨u,d,j⟩:=Z m hm;obtain⟨u',f,H⟩:=uu n m g _ _ _ d;have:=Df hc hm f;rw[d];congr 1;omega
 have s:=IY (n:=n) F;have P:=uu n m g;intro k x y a b hk S T;have t:=xM W m;have I:=(t _ _ _ S).1;have K:=(t _ _ _ T).2.1;have z:=s _ _ _ S;have A:=s _ _ _ T
 by_cases e:k=m
 ·subst e
  have d:g x k=some a:=by
   rcases z with h|⟨p,q,M,O,rfl⟩
   ·exact h
   ·rw[F]at O;have:q=0:=by simpa using O.symm
    subst this;simpa using M
  have j:g k y=some b:=by
   rcases A with h|⟨p,q,M,O,rfl⟩
   ·exact h
   ·rw[F]at M;have:p=0:=by simpa using M.symm
    subst this;simpa using O
  exact uv I K d j
 ·have i:k<m:=Uo
  rcases z with d|⟨a1,U,d,B,rfl⟩<;>rcases A with j|⟨V,b2,j,D,rfl⟩
  ·obtain⟨v,o,c⟩:=E k x y a b i d j
   obtain⟨r,f,H⟩:=P _ _ _ o;exact⟨r,f,Uo⟩
  ·obtain⟨v,o,c⟩:=E k x m a V i d j
   obtain⟨r,f,H⟩:=uv (n:=n) I K o D;exact⟨r,f,Uo⟩
  ·obtain⟨v,o,c⟩:=E k m y U b i B j
   obtain⟨r,f,H⟩:=uv (n:=n) I K d o;exact⟨r,f,Uo⟩
  ·obtain⟨v,o,c⟩:=E k m m U V i B j
   rw[F]at o;have:v=0:=by simpa using o.symm
   obtain⟨r,f,H⟩:=uv (n:=n) I K d D;exact⟨r,f,Uo⟩
theorem xN{n:Nat}{os:List aV}:∀(f m:Nat) (g:G),m+f=n ->Ok n os g ->Diag n g ->Tri m g ->(1<=m ->jq n g=false) ->
  match jN n f m g with
  |none=>∃x w,Walk n os x x w/\0<w
  |some b=>Ok n os b/\Le g b/\Tri n b/\(1<=n ->∀v:Nat,v<n ->b v v=some 0)
 |0,m,g,i,c,d,j,hc=>by
  simp only[jN];have:m=n:=Uo
  subst this;refine⟨c,Le.refl _,j,λk v o=>?_⟩;obtain⟨u,e,p⟩:=d v o;have:=Df (hc k) o e;rw[e];congr 1;omega
 |f+1,m,g,i,c,d,j,hc=>by
  simp only[jN];cases a:jq n (pass n m g)with
  |true=>
   simp only[if_true];obtain⟨v,o,u,k,e⟩:=IZ a;exact⟨v,u,(xM c m _ _ _ k).2.2,e⟩
  |false=>
   simp only[Bool.false_eq_true,if_false];have:=xN (os:=os) f (m+1) (pass n m g) Uo (xM c m) (d.le (uu n m g)) (I0 Uo c d j a) (λ_=>a);cases h:jN n f (m+1) (pass n m g)with
   |none=>rw[h]at this;exact this
   |some b=>rw[h]at this;exact⟨this.1,(uu n m g).trans this.2.1,this.2.2⟩
theorem xO{vars:Int}{n:Nat}(k:(n:Int)=vars+1){os:List aV}:∀(r:List aV) (g:G),(∀o∈r,o∈os) ->Ok n os g ->∀b,iX vars r g=some b ->Ok n os b/\Le g b/\(∀o∈r,∃v,b o.low o.high=some v/\o.add<=v)/\∀o∈r,da vars o=false
 |[],g,_,c,b,h=>by
  simp only[iX,QZ]at h;subst h;exact⟨c,Le.refl _,⟨λo d=>(by cases d),λo d=>(by cases d)⟩⟩
 |o::r,g,hr,c,b,h=>by
  simp only[iX]at h;cases hb:da vars o with
  |true=>rw[hb]at h;simp at h
  |false=>
   rw[hb]at h;simp only[Bool.false_eq_true,if_false]at h;have m:¬ (o.low<0 \/vars<o.low \/o.high<0 \/vars<o.high \/o.add< -1000 \/1000<o.add):=by simpa[da]using hb
   have e:Rg n o.low:=by unfold Rg;omega
   have i:Rg n o.high:=by unfold Rg;omega
   have f:=Dc c e i (Walk.one (.ord o (hr o Ud) e i) e);obtain⟨p,j,s,t⟩:=xO k r _ (λq a=>hr q (by simp[a])) f b h;refine⟨p,(Db _ _ _ _).trans j,λq a=>?_,λq a=>?_⟩
   ·rcases List.mem_cons.1 a with rfl|a
    ·obtain⟨u,y,B⟩:=Da g q.low q.high q.add
     obtain⟨z,A,D⟩:=j _ _ _ y;exact⟨z,A,Uo⟩
    ·exact s q a
   ·rcases List.mem_cons.1 a with rfl|a
    ·exact hb
    ·exact t q a
theorem xP{vars:Int}:∀(r:List aV) (g:G),(iX vars r g=none↔r.any (da vars)=true)
 |[],g=>by simp[iX]
 |o::r,g=>by
  simp only[iX,List.any_cons];cases hb:da vars o with
  |true=>simp
  |false=>simpa using xP r _
structure uw(n:Nat)(os:List aV)(g:G):Prop where
 walk:∀x y v,g x y=some v ->Rg n x/\Rg n y/\Walk n os x y v
 most:∀x y p,Walk n os x y p ->∃v,g x y=some v/\p<=v
 zero:∀x,Rg n x ->g x x=some 0
theorem Dg{vars:Int}{os:List aV}{g:G}(h:fc vars os= .ok g):uw (vars.toNat+1) os g/\0<=vars/\vars<=16/\os.length<=64/\os.any (da vars)=false:=by
 unfold fc at h;split at h
 ·cases h
 ·rename_i f
  split at h
  ·cases h
  ·rename_i hl
   split at h
   ·cases h
   ·rename_i m n
    split at h
    ·cases h
    ·rename_i q r
     have:q=g:=by simpa using h
     subst this;have K:((vars.toNat+1:Nat):Int)=vars+1:=Uo
     obtain⟨M,B,O,P⟩:=xO K os (ly (vars.toNat+1)) (λ_ h=>h) (Dd _ os) m n;have S:Diag (vars.toNat+1) m:=Diag.le (λv f=>⟨0,(pN _ _ (KJ _) _ _ _).2 ⟨rfl,.inl ⟨rfl,ut f⟩⟩,Int.le_refl _⟩) B;have:=xN (os:=os) (vars.toNat+1) 0 m Uo M S (λk _ _ _ _ hk=>Uo) (λh=>Uo);rw[r]at this;obtain⟨D,E,T,U⟩:=this;have s:∀x,Rg (vars.toNat+1) x ->q x x=some 0:=λx j=>by
      obtain⟨i,rfl⟩:=Int.eq_ofNat_of_zero_le j.1;exact U Uo i (by have:=j.2;omega)
     have d:∀x y p,Edge (vars.toNat+1) os x y p ->∃v,q x y=some v/\p<=v:=by
      intro x y p e;cases e with
      |zero _ t=>
       obtain⟨u,z,F⟩:=(B.trans E) _ _ _ ((pN _ _ (KJ _) 0 y 0).2 ⟨rfl,.inr ⟨rfl,t⟩⟩);exact⟨u,z,F⟩
      |self _ t=>exact⟨0,s _ t,Int.le_refl _⟩
      |ord o A _ _=>
       obtain⟨u,z,F⟩:=O o A;obtain⟨V,W,h4⟩:=E _ _ _ z;exact⟨V,W,Uo⟩
     refine⟨⟨D,λx y p H=>?_,s⟩,Uo,Uo,Uo,?_⟩
     ·induction H with
      |nil j=>exact⟨0,s _ j,Int.le_refl _⟩
      |snoc H e Z=>
       obtain⟨a,I,hp⟩:=Z;obtain⟨b,hb,hq⟩:=d _ _ _ e;have c:=(D _ _ _ I).2.1;obtain⟨i,rfl⟩:=Int.eq_ofNat_of_zero_le c.1;obtain⟨v,f,a0⟩:=T i _ _ a b (by have:=c.2;omega) I hb;exact⟨v,f,Uo⟩
     ·rw[List.any_eq_false]
      exact λo A=>by simp[P o A]
theorem closedF_err{vars:Int}{os:List aV}{e:Int}(h:fc vars os= .error e):
  ((vars<0 \/16<vars)/\e=1) \/(¬ (vars<0 \/16<vars)/\64<os.length/\e=5) \/(¬ (vars<0 \/16<vars)/\¬ 64<os.length/\os.any (da vars)=true/\e=1) \/
  (¬ (vars<0 \/16<vars)/\¬ 64<os.length/\os.any (da vars)=false/\e=7/\∃x w,Walk (vars.toNat+1) os x x w/\0<w):=by
 unfold fc at h;split at h
 ·rename_i a;exact .inl ⟨a,by simpa using h.symm⟩
 ·rename_i a
  split at h
  ·rename_i d;exact .inr (.inl ⟨a,d,by simpa using h.symm⟩)
  ·rename_i d
   split at h
   ·rename_i i;exact .inr (.inr (.inl ⟨a,d,(xP os _).1 i,by simpa using h.symm⟩))
   ·rename_i f b
    have c:os.any (da vars)=false:=by
     cases j:os.any (da vars)with
     |false=>rfl
     |true=>rw[(xP os _).2 j]at b;cases b
    split at h
    ·rename_i g
     have m:((vars.toNat+1:Nat):Int)=vars+1:=Uo
     obtain⟨n,o,q,r⟩:=xO m os (ly (vars.toNat+1)) (λ_ h=>h) (Dd _ os) f b;have p:Diag (vars.toNat+1) f:=Diag.le (λv a=>⟨0,(pN _ _ (KJ _) _ _ _).2 ⟨rfl,.inl ⟨rfl,ut a⟩⟩,Int.le_refl _⟩) o;have:=xN (os:=os) (vars.toNat+1) 0 f Uo n p (λk _ _ _ _ s=>Uo) (λh=>Uo);rw[g]at this;exact .inr (.inr (.inr ⟨a,d,c,by simpa using h.symm,this⟩))
    ·cases h
def gt(d:List Int)(v:Nat):Int:=d.getD v 0
theorem jt(d:List Int)(i:Nat)(x:Int)(v:Nat):gt (d.set i x) v=if i=v/\v<d.length then x else gt d v:=by
 unfold gt;simp only[QK,List.getElem?_set]
 by_cases h:i=v
 ·subst h
  by_cases a:i<d.length
  ·simp[a]
  ·simp[a]
 ·simp[h]
structure Inv(n:Nat)(os:List aV)(low:Int)(B:Int)(d:List Int):Prop where
 len:d.length=n
 bd:∀v,v<n ->gt d v=non \/(-B<=gt d v/\gt d v<=B)
 walk:∀v,v<n ->gt d v≠non ->Walk n os low v (gt d v)
def Good(n:Nat)(os:List aV):Prop:=∀o∈os,Rg n o.low/\Rg n o.high/\ -1000<=o.add/\o.add<=1000
def GeD(n:Nat)(d d':List Int):Prop:=∀v,v<n ->gt d v<=gt d' v
theorem GeD.refl(n:Nat)(d:List Int):GeD n d d:=λ_ _=>Int.le_refl _
theorem GeD.trans{n:Nat}{a b c:List Int}(h:GeD n a b)(k:GeD n b c):GeD n a c:=λv d=>Int.le_trans (h v d) (k v d)
theorem Inv.mono{n:Nat}{os:List aV}{low B a:Int}{d:List Int}(h:Inv n os low B d)(e:B<=a):Inv n os low a d:=
 ⟨h.len,λv c=>by rcases h.bd v c with b|b;exact .inl b;exact .inr Uo,h.walk⟩
theorem I1{n:Nat}{os:List aV}{low B:Int}{s:List Int×Bool}(h:Inv n os low B s.1){v:Nat}(d:v<n):
  Inv n os low B (bJ v s).1/\GeD n s.1 (bJ v s).1/\(gt s.1 0≠non ->gt s.1 0<=gt (bJ v s).1 v)/\((bJ v s).2=false ->bJ v s=s/\(gt s.1 0=non \/gt s.1 0<=gt s.1 v))/\((bJ v s).2=true ->s.2=true \/∃u,u<n/\gt s.1 u<gt (bJ v s).1 u):=by
 unfold bJ;split
 ·rename_i g
  obtain⟨p,q⟩:=g;have i:gt s.1 0≠non:=p;have b:gt s.1 v<gt s.1 0:=q;have o:0<n:=Uo
  have j:=h.bd 0 o;refine⟨⟨by simp[h.len],λu f=>?_,λu f a=>?_⟩,λu f=>?_,λ_=>?_,⟨λr=>(by cases r),λ_=>.inr ⟨v,d,by simp only[jt,true_and];rw[KX (by rw[h.len];exact d)];exact b⟩⟩⟩
  ·simp only[jt];split
   ·exact j
   ·exact h.bd u f
  ·simp only[jt]at a ⊢;split
   ·rename_i e
    obtain⟨k,_⟩:=e;subst k;have t:=h.walk 0 o i;have:=Walk.snoc t (.zero (v:Int) (ut d))
    simpa[gt]using this
   ·rename_i e;rw[KY e]at a;exact h.walk u f a
  ·simp only[jt];split
   ·rename_i e;obtain⟨k,_⟩:=e;subst k;exact Int.le_of_lt b
   ·exact Int.le_refl _
  ·simp only[jt,true_and];rw[KX (by rw[h.len];exact d)];exact Int.le_refl _
 ·rename_i g
  have c:gt s.1 0=non \/gt s.1 0<=gt s.1 v:=by
   unfold gt
   by_cases e:s.1.getD 0 0=non
   ·exact .inl e
   ·exact .inr (by
     have:¬ (s.1.getD v 0<s.1.getD 0 0):=λm=>g ⟨e,m⟩;omega)
  exact⟨h,GeD.refl _ _,λa=>c.resolve_left a,λ_=>⟨rfl,c⟩,λy=>.inl y⟩
theorem I2{n:Nat}{os:List aV}{low B:Int}{s:List Int×Bool}(h:Inv n os low B s.1){o:aV}(q:o∈os)(z:Good n os):
  Inv n os low (B+1000) (cC s o).1/\GeD n s.1 (cC s o).1/\(gt s.1 o.low.toNat≠non ->gt s.1 o.low.toNat+o.add<=gt (cC s o).1 o.high.toNat)/\
   ((cC s o).2=false ->cC s o=s/\(gt s.1 o.low.toNat=non \/gt s.1 o.low.toNat+o.add<=gt s.1 o.high.toNat))/\((cC s o).2=true ->s.2=true \/∃u,u<n/\gt s.1 u<gt (cC s o).1 u):=by
 obtain⟨A,D,E,F⟩:=z o q;unfold Rg at A D;have c:o.low.toNat<n:=Uo
 have b:o.high.toNat<n:=Uo
 have k:=h.bd _ c;unfold cC;split
 ·rename_i m
  obtain⟨H,I⟩:=m;have d:gt s.1 o.low.toNat≠non:=H;have f:gt s.1 o.high.toNat<gt s.1 o.low.toNat+o.add:=I;have g:=k.resolve_left d;refine⟨⟨by simp[h.len],λu j=>?_,λu j a=>?_⟩,λu j=>?_,λ_=>?_,⟨λK=>(by cases K),λ_=>.inr ⟨o.high.toNat,b,by simp only[jt,true_and];rw[KX (by rw[h.len];exact b)];exact f⟩⟩⟩
  ·simp only[jt];split
   ·right;unfold gt at g;omega
   ·rcases h.bd u j with r|r
    ·exact .inl r
    ·exact .inr Uo
  ·simp only[jt]at a ⊢;split
   ·rename_i e
    obtain⟨t,_⟩:=e;have y:=h.walk _ c d;have M:((o.low.toNat:Nat):Int)=o.low:=Uo
    have O:((u:Nat):Int)=o.high:=Uo
    rw[M]at y;have:=Walk.snoc y (.ord o q (by unfold Rg;omega) (by unfold Rg;omega));rw[O];exact this
   ·rename_i e;rw[KY e]at a;exact h.walk u j a
  ·simp only[jt];split
   ·rename_i e;obtain⟨t,_⟩:=e;subst t;exact Int.le_of_lt f
   ·exact Int.le_refl _
  ·simp only[jt,true_and];rw[KX (by rw[h.len];exact b)];exact Int.le_refl _
 ·rename_i m
  have i:gt s.1 o.low.toNat=non \/gt s.1 o.low.toNat+o.add<=gt s.1 o.high.toNat:=by
   unfold gt
   by_cases e:s.1.getD o.low.toNat 0=non
   ·exact .inl e
   ·exact .inr (by
     have:¬ (s.1.getD o.high.toNat 0<s.1.getD o.low.toNat 0+o.add):=λp=>m ⟨e,p⟩;omega)
  exact⟨h.mono Uo,GeD.refl _ _,λa=>i.resolve_left a,λ_=>⟨rfl,i⟩,λP=>.inl P⟩
theorem ux{n:Nat}{os:List aV}{low B:Int}{d c:List Int}(h:Inv n os low B d)(g:B<1000000000)(a:GeD n d c){v:Nat}(f:v<n)(b:gt d v≠non):gt c v≠non:=by
 have i:=(h.bd v f).resolve_left b;have j:=a v f;intro e;unfold non at e;omega
theorem xQ{n:Nat}{os:List aV}{low B:Int}{d:List Int}(h:Inv n os low B d)(q:B<1000000000):∀k,k<=n ->
  Inv n os low B (aT bJ k (d,false)).1/\GeD n d (aT bJ k (d,false)).1/\(gt d 0≠non ->∀v,v<k ->gt d 0<=gt (aT bJ k (d,false)).1 v)/\
   ((aT bJ k (d,false)).2=false ->aT bJ k (d,false)=(d,false)/\∀v,v<k ->gt d 0=non \/gt d 0<=gt d v)/\((aT bJ k (d,false)).2=true ->∃u,u<n/\gt d u<gt (aT bJ k (d,false)).1 u)
 |0,_=>⟨h,GeD.refl _ _,⟨λ_ v i=>Uo,⟨λ_=>⟨rfl,λv i=>Uo⟩,λj=>(by cases j)⟩⟩⟩
 |k+1,O=>by
  obtain⟨y,c,z,A,D⟩:=xQ h q k Uo;obtain⟨E,m,F,H,I⟩:=I1 y (v:=k) Uo;refine⟨E,c.trans m,λa v i=>?_,λf=>?_,λj=>?_⟩
  ·have r:0<n:=Uo
   by_cases e:v=k
   ·subst e
    have K:=ux h q c r a;have:=F K;have o:=c 0 r;simp only[aT];omega
   ·have g:=z a v Uo
    have o:=m v Uo;simp only[aT];omega
  ·simp only[aT]at f ⊢
   obtain⟨e,s⟩:=H f;rw[e]at f ⊢;obtain⟨t,p⟩:=A f;rw[t]at s;refine⟨t,λv i=>?_⟩
   by_cases M:v=k
   ·subst M;exact s
   ·exact p v Uo
  ·rcases I j with g|⟨u,b,g⟩
   ·obtain⟨u,b,o⟩:=D g
    exact⟨u,b,Int.lt_of_lt_of_le o (m u b)⟩
   ·exact⟨u,b,Int.lt_of_le_of_lt (c u b) g⟩
theorem xR{n:Nat}{os:List aV}{low:Int}(j:Good n os):∀(r:List aV) (B:Int) (s:List Int×Bool),(∀o∈r,o∈os) ->Inv n os low B s.1 ->B+1000*r.length<999000000 ->
  Inv n os low (B+1000*r.length) (r.foldl cC s).1/\GeD n s.1 (r.foldl cC s).1/\(∀o∈r,gt s.1 o.low.toNat≠non ->gt s.1 o.low.toNat+o.add<=gt (r.foldl cC s).1 o.high.toNat)/\
   ((r.foldl cC s).2=false ->r.foldl cC s=s/\∀o∈r,gt s.1 o.low.toNat=non \/gt s.1 o.low.toNat+o.add<=gt s.1 o.high.toNat)/\((r.foldl cC s).2=true ->s.2=true \/∃u,u<n/\gt s.1 u<gt (r.foldl cC s).1 u)
 |[],B,s,_,h,_=>⟨by simpa using h,GeD.refl _ _,⟨λo k=>(by cases k),⟨λ_=>⟨rfl,λo k=>(by cases k)⟩,λm=>.inl m⟩⟩⟩
 |o::r,B,s,hr,h,E=>by
  simp only[JV]at E;obtain⟨F,i,H,I,K⟩:=I2 h (hr o Ud) j;obtain⟨z,p,M,O,P⟩:=xR j r (B+1000) (cC s o) (λq a=>hr q (by simp[a])) F Uo;simp only[List.foldl_cons,JV];have e:B+1000+1000*(r.length:Int)=B+1000*((r.length+1:Nat):Int):=Uo
  rw[e]at z;refine⟨z,i.trans p,λq a b=>?_,λt=>?_,λm=>?_⟩
  ·have y:=j q (hr q a)
   unfold Rg at y;rcases List.mem_cons.1 a with rfl|a
   ·have c:=H b
    have d:=p q.high.toNat Uo;omega
   ·have f:=ux h Uo i (v:=q.low.toNat) Uo b
    have c:=M q a f;have d:=i q.low.toNat Uo;omega
  ·obtain⟨A,S⟩:=O t
   rw[A]at t;obtain⟨D,T⟩:=I t;refine⟨by rw[A,D],λq a=>?_⟩;rcases List.mem_cons.1 a with rfl|a
   ·exact T
   ·have:=S q a
    rw[D]at this;exact this
  ·rcases P m with c|⟨u,g,c⟩
   ·rcases K c with d|⟨u,g,d⟩
    ·exact .inl d
    ·exact .inr ⟨u,g,Int.lt_of_lt_of_le d (p u g)⟩
   ·exact .inr ⟨u,g,Int.lt_of_le_of_lt (i u g) c⟩
structure xS(n:Nat)(os:List aV)(d:List Int):Prop where
 zero:∀v,v<n ->gt d 0=non \/gt d 0<=gt d v
 ord:∀o∈os,gt d o.low.toNat=non \/gt d o.low.toNat+o.add<=gt d o.high.toNat
theorem Dh{n:Nat}{os:List aV}{low B:Int}{d:List Int}(k:Good n os)(h:Inv n os low B d)(r:B+1000*os.length<999000000):
  Inv n os low (B+1000*os.length) (cd n os d).1/\GeD n d (cd n os d).1/\(gt d 0≠non ->∀v,v<n ->gt d 0<=gt (cd n os d).1 v)/\(∀o∈os,gt d o.low.toNat≠non ->gt d o.low.toNat+o.add<=gt (cd n os d).1 o.high.toNat)/\
   ((cd n os d).2=false ->(cd n os d).1=d/\xS n os d)/\((cd n os d).2=true ->∃u,u<n/\gt d u<gt (cd n os d).1 u):=by
 obtain⟨s,f,t,y,z⟩:=xQ h Uo n (KJ _);obtain⟨A,i,D,E,F⟩:=xR k os B (aT bJ n (d,false)) (λ_ h=>h) s r;refine⟨A,f.trans i,λa v m=>?_,λo p a=>?_,λg=>?_,λH=>?_⟩
 ·have b:=t a v m
  have j:=i v m;unfold cd;omega
 ·have I:=k o p
  unfold Rg at I;have c:=ux h Uo f (v:=o.low.toNat) Uo a;have b:=D o p c;have j:=f o.low.toNat Uo;unfold cd;omega
 ·obtain⟨K,q⟩:=E g
  unfold cd at g ⊢;rw[K]at g ⊢;obtain⟨M,O⟩:=y g;rw[M]at q ⊢;exact⟨rfl,O,q⟩
 ·rcases F H with b|⟨u,e,b⟩
  ·obtain⟨u,e,j⟩:=z b
   exact⟨u,e,Int.lt_of_lt_of_le j (i u e)⟩
  ·exact⟨u,e,Int.lt_of_le_of_lt (f u e) b⟩
theorem uy{n:Nat}{os:List aV}{low:Int}(f:Good n os)(hl:os.length<=64):∀(r:Nat) (B:Int) (d a:List Int),Inv n os low B d ->B+64000*r<900000000 ->mw n os r d=some a ->Inv n os low 900000000 a/\GeD n d a/\xS n os a
 |0,_,_,_,_,_,h=>by simp[mw]at h
 |r+1,B,d,a,hi,s,h=>by
  have g:(1000*os.length:Int)<=64000:=Uo
  obtain⟨i,j,_,_,k,_⟩:=Dh f hi Uo;simp only[mw]at h;split at h
  ·obtain⟨m,o,p⟩:=uy f hl r (B+64000) _ a (i.mono Uo) Uo h
   exact⟨m,j.trans o,p⟩
  ·rename_i q
   have c:(cd n os d).2=false:=by simpa using q
   obtain⟨e,b⟩:=k c;have:(cd n os d).1=a:=by simpa using h
   rw[e]at this;subst this;exact⟨hi.mono Uo,GeD.refl _ _,b⟩
theorem rq{n:Nat}(os:List aV){low:Nat}(hl:low<n):Inv n os low 0 ((List.replicate n non).set low 0)/\gt ((List.replicate n non).set low 0) low=0:=by
 have c:∀v,v<n ->gt (List.replicate n non) v=non:=λv b=>by simp[gt,b]
 refine⟨⟨Ud,λv b=>?_,λv b a=>?_⟩,?_⟩
 ·rw[jt];split
  ·exact .inr Uo
  ·exact .inl (c v b)
 ·rw[jt]at a ⊢
  split
  ·rename_i e;obtain⟨rfl,_⟩:=e;exact .nil _ (ut hl)
  ·rename_i e;rw[KY e]at a;exact absurd (c v b) a
 ·rw[jt,KX (by simpa using hl)]
theorem xT{n:Nat}{os:List aV}{low:Int}{d:List Int}(u:Good n os)(hi:Inv n os low 900000000 d)(m:xS n os d){x y p:Int}(r:Walk n os x y p)(i:gt d x.toNat≠non):
  gt d y.toNat≠non/\gt d x.toNat+p<=gt d y.toNat:=by
 have z:∀{a b q:Int},Edge n os a b q ->gt d a.toNat≠non ->gt d b.toNat≠non/\gt d a.toNat+q<=gt d b.toNat:=by
  intro a b q e f;cases e with
  |zero _ s=>
   unfold Rg at s;have c:gt d 0≠non:=f;have g:=(m.zero b.toNat Uo).resolve_left c;have j:=(hi.bd 0 Uo).resolve_left c;have:gt d (0:Int).toNat=gt d 0:=rfl;exact⟨λe=>by unfold non at e;omega,Uo⟩
  |self _ s=>exact⟨f,Uo⟩
  |ord o t g j=>
   unfold Rg at g j;have k:=(m.ord o t).resolve_left f;have A:=(hi.bd o.low.toNat Uo).resolve_left f;have D:=u o t;refine⟨λe=>?_,k⟩;unfold non at e;omega
 induction r with
 |nil E=>exact⟨i,Uo⟩
 |snoc r e B=>
  obtain⟨g,j⟩:=B;obtain⟨k,A⟩:=z e g;exact⟨k,Uo⟩
theorem I3{n:Nat}{os:List aV}{g:G}{low:Nat}{d:List Int}(A:n<=17)(i:Good n os)(hl:os.length<=64)(hc:uw n os g)(b:low<n)(h:kz n os low=some d):
  d.length=n/\∀v:Nat,v<n ->(g low v=none/\gt d v=non) \/(∃p,g low v=some p/\gt d v=p/\p≠non):=by
 obtain⟨j,B⟩:=rq os b;obtain⟨f,k,s⟩:=uy i hl (n+1) 0 _ d j Uo h;have m:0<=gt d low:=by have:=k low b;omega
 have c:gt d low≠non:=λe=>by unfold non at e;omega
 refine⟨f.len,λv u=>?_⟩
 by_cases a:gt d v=non
 ·left
  refine⟨?_,a⟩;cases o:g low v with
  |none=>rfl
  |some p=>
   obtain⟨_,_,q⟩:=hc.walk _ _ _ o;have:=(xT i f s q (by simpa using c)).1;exact absurd a (by simpa using this)
 ·right
  have q:=f.walk v u a;obtain⟨p,t,y⟩:=hc.most _ _ _ q;obtain⟨_,_,r⟩:=hc.walk _ _ _ t;have z:=(xT i f s r (by simpa using c)).2;simp only[Int.toNat_natCast]at z;have e:gt d v=p:=Uo
  exact⟨p,t,e,e▸a⟩
theorem I4{n:Nat}{os:List aV}(t:n<=17)(k:Good n os)(hl:os.length<=64){x w:Int}(m:Walk n os x x w)(o:0<w):∃low,low<n/\kz n os low=none:=by
 have f:Rg n x:=by
  have:∀{a b p:Int},Walk n os a b p ->Rg n a:=by
   intro a b p h
   induction h with
   |nil f=>exact f
   |snoc _ _ q=>exact q
  exact this m
 refine⟨x.toNat,by unfold Rg at f;omega,?_⟩;cases h:kz n os x.toNat with
 |none=>rfl
 |some d=>
  have c:x.toNat<n:=by unfold Rg at f;omega
  obtain⟨g,u⟩:=rq os c;obtain⟨r,i,s⟩:=uy k hl (n+1) 0 _ d g Uo h;have j:0<=gt d x.toNat:=by have:=i x.toNat c;omega
  have:=(xT k r s m (λe=>by unfold non at e;omega)).2;omega
theorem Di{p q:Nat ->Bool}:∀(l:List Nat),(∀x∈l,q x=true ->p x=true) ->(∃x∈l,p x=true/\q x=false) ->l.countP q<l.countP p
 |[],_,⟨x,b,_⟩=>by cases b
 |a::l,h,⟨x,b,h1,h2⟩=>by
  have c:∀(l:List Nat),(∀x∈l,q x=true ->p x=true) ->l.countP q<=l.countP p:=λl e=>List.countP_mono_left e;simp only[List.countP_cons];rcases List.mem_cons.1 b with rfl|b
  ·have:=c l (λy d=>h y (by simp[d]))
   simp[h1,h2];omega
  ·have:=Di l (λy d=>h y (by simp[d])) ⟨x,b,h1,h2⟩
   have f:=h a Ud;cases g:q a<;>cases i:p a<;>simp_all<;>omega
def fP(g:G)(low:Int)(d:List Int)(v:Nat):Bool:=match g low v with
 |none=>false
 |some p=>decide (gt d v=non \/gt d v≠p)
theorem Dj{g:G}{low:Int}{d:List Int}{v:Nat}(h:fP g low d v=true):∃p,g low v=some p/\(gt d v=non \/gt d v≠p):=by
 unfold fP at h;split at h
 ·cases h
 ·rename_i p a;exact⟨p,a,by simpa using h⟩
theorem xV{g:G}{low:Int}{d:List Int}{v:Nat}{p:Int}(a:g low v=some p)(h:fP g low d v=false):gt d v≠non/\gt d v=p:=by
 unfold fP at h;rw[a]at h;simp only[decide_eq_false_iff_not]at h;exact⟨λe=>h (.inl e),Decidable.byContradiction λe=>h (.inr e)⟩
theorem Dk{g:G}{low:Int}{d:List Int}{v:Nat}{p:Int}(a:g low v=some p)(h1:gt d v≠non)(h2:gt d v=p):fP g low d v=false:=by
 unfold fP;rw[a];simp only[decide_eq_false_iff_not];rintro(h|h)
 ·exact h1 h
 ·exact h h2
theorem Dl{n:Nat}{os:List aV}{g:G}{low:Nat}(hg:Good n os)(hl:os.length<=64)(hc:uw n os g)(j:low<n):∀(r:Nat) (B:Int) (d:List Int),Inv n os low B d ->B+64000*r<900000000 ->
  0<=gt d low ->(List.range n).countP (fP g low d)<r ->∃d',mw n os r d=some d'
 |0,_,_,_,_,_,h=>Uo
 |r+1,B,d,hi,hB,h0,V=>by
  have a9:(1000*os.length:Int)<=64000:=Uo
  obtain⟨W,Z,k3,k4,k5,k6⟩:=Dh hg hi Uo;simp only[mw];cases hf:(cd n os d).2 with
  |false=>exact⟨_,rfl⟩
  |true=>
   simp only[if_true];have i:∀(d:List Int) (B:Int),Inv n os low B d ->∀v,v<n ->gt d v≠non ->∃p,g low v=some p/\gt d v<=p:=λd B hi v s f=>by
    obtain⟨p,b,i⟩:=hc.most _ _ _ (hi.walk v s f);exact⟨p,b,i⟩
   have A:gt d low≠non:=λe=>by unfold non at e;omega
   have E:∀v,v<n ->∀p,g low v=some p ->gt d v≠non ->p<=gt (cd n os d).1 v ->fP g low (cd n os d).1 v=false:=λv s p b f h1=>by
    have c:=ux hi Uo Z s f;obtain⟨q,K,k⟩:=i _ _ W v s c;rw[b]at K;have:p=q:=by simpa using K
    exact Dk b c Uo
   have grow:∀{v:Int} {p:Int},Walk n os low v p ->g low v=some p ->fP g low d v.toNat=true ->∃y,y<n/\fP g low d y=true/\fP g low (cd n os d).1 y=false:=by
    intro v p F;have a0:∀{a v p:Int},Walk n os a v p ->a=low ->g low v=some p ->fP g low d v.toNat=true ->∃y,y<n/\fP g low d y=true/\fP g low (cd n os d).1 y=false:=by
     intro a v p F
     induction F with
     |nil hx=>
      intro ha b m;subst ha;simp only[Int.toNat_natCast]at m;obtain⟨q,K,a1⟩:=Dj m;rw[hc.zero _ hx]at K;have a':(0:Int)=q:=by simpa using K
      obtain⟨q',M,k⟩:=i d B hi low j A;rw[hc.zero _ hx]at M;have a5:(0:Int)=q':=by simpa using M
      rcases a1 with h|h
      ·exact absurd h A
      ·exact absurd Uo h
     | @snoc y z p q F e ih=>
      intro ha b m;subst ha;obtain⟨p',H,a6⟩:=hc.most _ _ _ F;obtain⟨_,a2,a3⟩:=hc.walk _ _ _ H;obtain⟨t,ht,a7⟩:=hc.most _ _ _ (Walk.snoc a3 e);rw[b]at ht;have b0:p+q=t:=by simpa using ht
      have:p'=p:=Uo
      subst this;unfold Rg at a2;have O:y.toNat<n:=Uo
      have ey:((y.toNat:Nat):Int)=y:=Uo
      cases D:fP g low d y.toNat with
      |true=>exact ih rfl H D
      |false=>
       obtain⟨f,a8⟩:=xV (v:=y.toNat) (p:=p') (by rw[ey];exact H) D;obtain⟨_,a4,_⟩:=hc.walk _ _ _ b;unfold Rg at a4;have I:z.toNat<n:=Uo
       have ez:((z.toNat:Nat):Int)=z:=Uo
       have b1:gt d y.toNat+q<=gt (cd n os d).1 z.toNat:=by
        cases e with
        |zero _ _=>
         have:=k3 f z.toNat I;have e0:gt d (0:Int).toNat=gt d 0:=rfl;omega
        |self _ _=>have:=Z y.toNat O;omega
        |ord o ho _ _=>exact k4 o ho f
       refine⟨z.toNat,I,m,?_⟩;have hb:=(hi.bd y.toNat O).resolve_left f;have c:gt (cd n os d).1 z.toNat≠non:=λe'=>by
        have K:-1000<=q:=by
         cases e with
         |zero _ _=>omega
         |self _ _=>omega
         |ord o ho _ _=>exact(hg o ho).2.2.1
        unfold non at e';omega
       obtain⟨u,P,k⟩:=i _ _ W z.toNat I c;rw[ez,b]at P;have:p'+q=u:=by simpa using P
       exact Dk (p:=p'+q) (by rw[ez];exact b) c Uo
    exact a0 F rfl
   refine Dl hg hl hc j r (B+64000) _ (W.mono Uo) Uo (by have:=Z low j;omega)<|KZ (Di (p:=fP g low d) (List.range n) (λv s m=>?_) ?_) Uo
   ·have s:=List.mem_range.1 s
    cases hd:fP g low d v with
    |true=>rfl
    |false=>
     obtain⟨p,b,_⟩:=Dj m;obtain⟨h1,h2⟩:=xV b hd;have:=E v s p b h1 (by have:=Z v s;omega);rw[this]at m;cases m
   ·obtain⟨S,T,b2⟩:=k6 hf
    have U:gt (cd n os d).1 S≠non:=by
     rcases hi.bd S T with h|h
     ·intro e;omega
     ·intro e;unfold non at e;omega
    obtain⟨p,b,k⟩:=i _ _ W S T U;have m:fP g low d S=true:=by
     cases hd:fP g low d S with
     |true=>rfl
     |false=>obtain⟨_,h2⟩:=xV b hd;omega
    obtain⟨_,_,F⟩:=hc.walk _ _ _ b;obtain⟨y,hy,h1,h2⟩:=grow F b (by simpa using m);exact⟨y,List.mem_range.2 hy,h1,h2⟩
theorem Do{n:Nat}{os:List aV}{g:G}{low:Nat}(e:n<=17)(c:Good n os)(hl:os.length<=64)(hc:uw n os g)(a:low<n):∃d,kz n os low=some d:=by
 obtain⟨b,f⟩:=rq os a;refine Dl c hl hc a (n+1) 0 _ b Uo Uo ?_;have:=List.countP_le_length (p:=fP g low ((List.replicate n non).set low 0)) (l:=List.range n);simp only[List.length_range]at this;omega
theorem uz{vars:Int}{os:List aV}(b:0<=vars)(h:os.any (da vars)=false):Good (vars.toNat+1) os:=λo a=>by
 have:=List.any_eq_false.1 h o a;have c:¬ (o.low<0 \/vars<o.low \/o.high<0 \/vars<o.high \/o.add< -1000 \/1000<o.add):=by simpa[da]using this
 unfold Rg;omega
theorem Dq(vars:Int)(os:List aV):iC vars os=match fc vars os with
  | .error e=>e
  | .ok _=>0:=by
 cases h:fc vars os with
 |ok g=>
  obtain⟨p,q,r,s,o⟩:=Dg h;have m:=uz q o;unfold iC;rw[KY Uo,KY Uo,o];simp only[Bool.false_eq_true,if_false];rw[KX];rw[List.all_eq_true];intro v t;obtain⟨d,u⟩:=Do Uo m s p (List.mem_range.1 t);simp[u]
 |error e=>
  rcases closedF_err h with ⟨a,rfl⟩|⟨a,c,rfl⟩|⟨a,c,k,rfl⟩|⟨a,c,k,rfl,x,w,y,f⟩
  ·unfold iC;rw[KX a]
  ·unfold iC;rw[KY a,KX c]
  ·unfold iC;rw[KY a,KY c,KX k]
  ·have m:=uz Uo k
   obtain⟨n,i,b⟩:=I4 Uo m Uo y f;unfold iC;rw[KY a,KY c,k];simp only[Bool.false_eq_true,if_false];rw[KY];rw[List.all_eq_true];intro j;have:=j n (List.mem_range.2 i);rw[b]at this;cases this
end Lv
namespace Go.Q
def Ents(es:List MapEntry)(l:List (Int×Int×Int)):Prop:=es.map (λe=>(e.key,e.val))=l.map λt=>(Value.agg #[iV t.1,iV t.2.1],iV t.2.2)
def xW(x y:Int):List (Int×Int×Int) ->Nat ->Option (Nat×Int)
 |[],_=>none
 |t::r,i=>if x=t.1/\y=t.2.1 then some (i,t.2.2)else xW x y r (i+1)
def Gr(h:Array Obj)(b:Nat)(g:Lv.G):Prop:=∃es clock l,h[b]?=some (.map es clock)/\Ents es.toList l/\∀x y,g x y=(xW x y l 0).map (·.2)
end Go.Q
namespace Lv
def lz(B:Int)(g:G):Prop:=∀x y v,g x y=some v -> -B<=v/\v<=B
theorem I5{B:Int}{g:G}(h:lz B g){x y v:Int}(h1:-B<=v)(h2:v<=B):lz B (dJ g x y v):=λa b u c=>by
 rcases raise_cases g x y v a b u c with d|⟨_,_,rfl⟩
 ·exact h a b u d
 ·exact⟨h1,h2⟩
def J(B:Int)(m low high:Nat)(g:G):Prop:=∀x y v,g x y=some v ->
 (-(6*B)<=v/\v<=6*B)/\((x=m \/y=m) -> -(3*B)<=v/\v<=3*B)/\((x=m/\y=m) -> -(2*B)<=v/\v<=2*B)/\(((low:Int)<x \/((low:Int)=x/\(high:Int)<=y)) -> -B<=v/\v<=B)
theorem Dr{B:Int}{g:G}(b:0<=B)(h:lz B g)(m:Nat):J B m 0 0 g:=λx y v a=>by
 have:=h x y v a;refine⟨Uo,λ_=>Uo,λ_=>Uo,λ_=>this⟩
theorem I6{B:Int}{m low high:Nat}{g:G}(h:J B m low high g):J B m low (high+1) (step m low high g):=by
 rcases step_cases m low high g with ⟨a,b,s,t,e⟩|e
 ·rw[e]
  intro x y v d;obtain⟨O,u,z,p⟩:=h _ _ _ s;obtain⟨P,A,D,q⟩:=h _ _ _ t;rcases raise_cases _ _ _ _ _ _ _ d with E|⟨rfl,rfl,rfl⟩
  ·obtain⟨f,i,j,k⟩:=h x y v E
   refine⟨f,i,j,λc=>k Uo⟩
  ·have F:=u (.inr rfl)
   have H:=A (.inl rfl);refine⟨Uo,λc=>?_,λc=>?_,λc=>Uo⟩
   ·by_cases r:(high:Int)=m
    ·have n:=p (.inr ⟨rfl,Uo⟩)
     have I:=D ⟨rfl,r⟩;omega
    ·have K:(low:Int)=m:=c.resolve_right r
     have o:=q (.inr ⟨Uo,Uo⟩);have M:=z ⟨K,rfl⟩;omega
   ·have n:=p (.inr ⟨rfl,Uo⟩)
    have o:=q (.inr ⟨Uo,Uo⟩);omega
 ·rw[e]
  intro x y v d;obtain⟨f,i,j,k⟩:=h x y v d;exact⟨f,i,j,λc=>k Uo⟩
theorem I7{B:Int}{m low n:Nat}{g:G}(h:J B m low n g):J B m (low+1) 0 g:=λx y v a=>by
 obtain⟨b,c,d,e⟩:=h x y v a;exact⟨b,c,d,λf=>e Uo⟩
theorem Ds{B:Int}{m low:Nat}{g:G}(h:J B m low 0 g)(k:Nat):J B m low k (aT (step m low) k g):=
 jr (f:=step m low) (λk g=>J B m low k g) h k λ_ _ _ a=>I6 a
theorem Dt{B:Int}{m n:Nat}{g:G}(h:J B m 0 0 g)(k:Nat):J B m k 0 (aT (ky n m) k g):=
 jr (f:=ky n m) (λk g=>J B m k 0 g) h k λ_ _ _ a=>I7 (Ds a n)
theorem I8{B:Int}{m low high:Nat}{g:G}(h:J B m low high g){a b:Int}(ha:g low m=some a)(hb:g m high=some b):-(6*B)<=a+b/\a+b<=6*B:=by
 have c:=(h _ _ _ ha).2.1 (.inr rfl);have d:=(h _ _ _ hb).2.1 (.inl rfl);omega
theorem I9{B:Int}{m low high:Nat}{g:G}(h:J B m low high g):lz (6*B) g:=λx y v a=>(h x y v a).1
theorem Ja(n:Nat):lz 1000 (ly n):=λx y v a=>by
 obtain⟨rfl,_⟩:=(pN n n (KJ _) x y v).1 a;omega
def pw:Nat ->Int
 |0=>1000
 |m+1=>6*pw m
theorem Hp':∀m,m<=17 ->0<=pw m/\6*pw m<=9000000000000000000:=by
 intro m a
 match m,a with
 |0,_=>decide
 |1,_=>decide
 |2,_=>decide
 |3,_=>decide
 |4,_=>decide
 |5,_=>decide
 |6,_=>decide
 |7,_=>decide
 |8,_=>decide
 |9,_=>decide
 |10,_=>decide
 |11,_=>decide
 |12,_=>decide
 |13,_=>decide
 |14,_=>decide
 |15,_=>decide
 |16,_=>decide
 |17,_=>decide
 |m+18,h=>omega
theorem Jb{B:Int}{n m:Nat}{g:G}(a:0<=B)(h:lz B g):lz (6*B) (pass n m g):=I9 (Dt (n:=n) (Dr a h m) n)
end Lv
namespace Go.Q
open Lv
def Rw(N:Nat)(h:Array Obj)(a:Option Addr)(k len:Nat)(c:Nat ->Nat ->Value):Prop:=
 len=0 \/∃b o,a=some ⟨b,o,none⟩/\b<N/\∀i j,i<len ->j<k ->Cl h b (o+i*k+j) (c i j)
def I64(x:Int):Prop:=-9223372036854775808<=x/\x<=9223372036854775807
def Jc(N:Nat)(h:Array Obj)(a:Option Addr)(l:List Int):Prop:=Rw N h a 1 l.length (λi _=>iV (l.getD i 0))/\∀x∈l,I64 x
def Du(N:Nat)(h:Array Obj)(a:Option Addr)(l:List Atom):Prop:=
 Rw N h a 2 l.length (λi j=>iV (if j=0 then (l.getD i default).var else (l.getD i default).add))/\∀x∈l,I64 x.var/\I64 x.add
def xX(N:Nat)(h:Array Obj)(a:Option Addr)(l:List aV):Prop:=
 Rw N h a 3 l.length (λi j=>iV (if j=0 then (l.getD i default).low else if j=1 then (l.getD i default).add else (l.getD i default).high))/\∀x∈l,I64 x.low/\I64 x.add/\I64 x.high
theorem Jd{α:Type} [Inhabited α](l:List α)(k:Nat)(h:k<l.length):l.drop k=l.getD k default::l.drop (k+1):=by
 rw[List.drop_eq_getElem_cons h];simp[h]
theorem Je{h:Array Obj}{b o:Nat}{x y:Value}(c:Cl h b (o+0) x)(h1:Cl h b (o+1) y):∀j v,[x,y][j]?=some v ->Cl h b (o+j) v:=by
 intro j v a
 match j,a with
 |0,a=>simp at a;subst a;exact c
 |1,a=>simp at a;subst a;exact h1
 |j+2,a=>simp at a
def Di'(vars:Int)(os:List aV)(w:World)(e:Ending)(w':World):Prop:=
 Kp [] w w'/\match fc vars os with
  | .error n=>e= .returned (.tuple #[.map none,iV n])
  | .ok g=>∃b,e= .returned (.tuple #[.map (some b),iV 0])/\Gr w'.heap b g/\w.heap.size<=b
theorem Kp.own{w a c:World}{b:Nat}(h:Kp [] w a)(k:Kp [b] a c)(hb:w.heap.size<=b):Kp [] w c:=
 h.trans k λx d e=>by
  have:x=b:=by simpa using d
  omega
def fQ(vars:Int):List Atom ->Int ->Bool
 |[],_=>true
 |x::r,last=>if x.var<=last \/vars<x.var \/x.add<0 \/1000<x.add then false else fQ vars r x.var
def cL(l:List Atom)(vars:Int):Bool:=
 if vars<0 \/16<vars \/l.length<1 \/4<l.length then false else fQ vars l (-1)
theorem Dv(l:List Atom)(a:Option Addr)(cap:Nat)(vars:Int)(w:World){N:Nat}(A:Du N w.heap a l):
  CC 141 #[.slice a l.length cap,iV vars] w (λe w'=>e= .returned (.bool (cL l vars))/\Kp [] w w'):=by
 refine oF func141 ?_;refine cO (args:=[_,_]) 53 [.tmp 4] τok func141 ?_;have p:vars<0 \/16<vars \/l.length<1 \/4<l.length ->cL l vars=false:=λh=>by unfold cL;rw[KX h]
 refine dH (λB=>?_) (λB=>?_)
 ·exact⟨by rw[p (by omega)];rfl,Kp.refl _ _⟩
 refine dH (λD=>?_) (λD=>?_)
 ·exact⟨by rw[p (by omega)];rfl,Kp.refl _ _⟩
 refine dH (λE=>?_) (λE=>?_)
 ·exact⟨by rw[p (by omega)];rfl,Kp.refl _ _⟩
 refine dH (λF=>?_) (λF=>?_)
 ·exact⟨by rw[p (by omega)];rfl,Kp.refl _ _⟩
 rcases A.1 with T|⟨b,o,rfl,U,y⟩
 ·omega
 refine loop τok (σ:=Nat×Int) (λx=>[(24,.slice (some ⟨b,o,none⟩) l.length cap),(25,iV l.length),(26,iV x.1),(5,iV x.2),(1,iV vars)])
  (λx w'=>x.1<=l.length/\cL l vars=fQ vars (l.drop x.1) x.2/\Kp [] w w') (λx=>l.length-x.1) (0,-1) ⟨rfl,rfl,rfl,rfl,rfl,trivial⟩ ⟨KV _,?_,Kp.refl _ _⟩ ?_
 ·unfold cL;rw[KY (by omega)];rfl
 rintro⟨k,j⟩ V ⟨W,q,g⟩;refine dH (λH=>?_) (λH=>?_)
 ·have d:k<l.length:=by omega
  obtain⟨x,z⟩:∃x,x=l.getD k default:=⟨_,rfl⟩
  rw[Jd l k d,<- z]at q;have m:=(y k 0 d (by omega)).kp g (by simp);have n:=(y k 1 d (by omega)).kp g (by simp);simp only[if_true,if_false,Nat.one_ne_zero,<- z]at m n;refine ix k rfl d ?_;refine jL [iV x.var,iV x.add] rfl (Je m n) ?_;refine fD λZ w2 r s I t=>?_;refine stN s rfl (by simp[Value.oneCell']) λw3 f K u=>?_;have c:=g.tr (t.newSt r u);have i:(x.var<=j \/vars<x.var \/x.add<0 \/1000<x.add) ->cL l vars=false:=λh=>by rw[q];simp only[fQ];rw[KX h]
  refine ld (f.cl rfl).cell ?_;refine dH (λM=>?_) (λM=>?_)
  ·exact⟨by rw[i (by omega)];rfl,c⟩
  refine ld (f.cl rfl).cell ?_;refine dH (λO=>?_) (λO=>?_)
  ·exact⟨by rw[i (by omega)];rfl,c⟩
  refine ld (f.cl rfl).cell ?_;refine dH (λP=>?_) (λP=>?_)
  ·exact⟨by rw[i (by omega)];rfl,c⟩
  refine ld (f.cl rfl).cell ?_;refine dH (λS=>?_) (λS=>?_)
  ·exact⟨by rw[i (by omega)];rfl,c⟩
  refine ld (f.cl rfl).cell ?_;refine i6 ?_;refine⟨(k+1,x.var),by simp only;omega,rfl,⟨rfl,rfl,rfl,rfl,rfl,trivial⟩,d,?_,c⟩;rw[q];simp only[fQ];rw[KY (by omega)]
 ·refine⟨?_,g⟩
  rw[q,JY (by omega)]
  rfl
def nG(p:Atom ->Bool):List Atom ->Int ->Int
 |[],_=>-1
 |x::r,i=>if p x then i else nG p r (i+1)
theorem Dw(p:Atom ->Bool):∀(l:List Atom) (i:Int),0<=i ->(decide (0<=nG p l i)=l.any p)
 |[],i,_=>by simp[nG]
 |x::r,i,h=>by
  simp only[nG,List.any_cons]
  by_cases a:p x=true
  ·simp[a,h]
  ·simp[a,Dw p r (i+1) Uo]
def Jf(f:FuncId)(captured:Array Value)(w:World)(p:Atom ->Bool)(x:Atom):Prop:=
 dO prog f/\Calls prog f (#[]++[Value.agg [iV x.var,iV x.add].toArray].toArray++captured) w (λe w'=>e= .returned (.bool (p x))/\Kp [] w w')
def dx(g:G)(x y:Atom):Bool:=match g x.var y.var with
 |none=>false
 |some d=>decide (x.add-y.add<=d)
def gb(vars:Int)(os:List aV)(a b:List Atom):Bool:=match fc vars os with
 | .error _=>false
 | .ok g=>cL a vars && cL b vars && a.all λx=>b.any (dx g x)
theorem jO{l:List Atom}{vars:Int}(h:cL l vars=true):l.length<=4/\∀x∈l,0<=x.add/\x.add<=1000/\0<=x.var/\x.var<=vars:=by
 unfold cL at h;split at h
 ·cases h
 ·rename_i d
  refine⟨Uo,?_⟩;have c:∀(l:List Atom) (a:Int),-1<=a ->fQ vars l a=true ->∀x∈l,0<=x.add/\x.add<=1000/\0<=x.var/\x.var<=vars:=by
   intro l
   induction l with
   |nil=>intro _ _ _ x b;cases b
   |cons y r e=>
    intro a f h x b;simp only[fQ]at h;split at h
    ·cases h
    ·rename_i d
     rcases List.mem_cons.1 b with rfl|b
     ·omega
     ·exact e y.var Uo h x b
  exact c l (-1) Uo h
def pO(vars:Int)(os:List aV):Int:=match fc vars os with
 | .error n=>n
 | .ok _=>0
end Go.Q
namespace Go.Q
def Im(X:List Nat)(w:World):Mem:=λb o v=>Cl w.heap b o v/\b ∉ X
section
variable{X Y:List Nat}{w w':World}
theorem Im.sub(X:List Nat)(w:World):Sub (Im X w) w:=λ_ _ _ h=>h.1
end
def TmV(C:Mem)(x:Tr)(v:Value):Prop:=∃a c,v= .slice a (row x).length c/\Sl rNd C a (row x)/\(row x).length<=c
def TmsV(C:Mem)(ys:List Tr)(v:Value):Prop:=∃a c,v= .slice a ys.length c/\Sl (gJ rNd) C a (ys.map row)/\ys.length<=c
open Go.Wx Cd Tm Lv
structure dy where
 args:List (List Nd)
 out:List (List Nd)
deriving Inhabited
structure cf where
 kind:Int
 sort:List Nd
 params:List (List Nd)
 indices:List (List Nd)
 ctors:List dy
 type:List Nd
 body:List Nd
deriving Inhabited
structure ak where
 vars:Int
 orders:List aV
 ents:List cf
 nat:Int
 prims:List (Int×Int)
def rOr:Rd aV where
 sz:=3
 den _ cs x:=cs=[iV x.low,iV x.add,iV x.high]/\I64 x.low/\I64 x.add/\I64 x.high
 len:=by rintro _ cs x ⟨rfl,_⟩;rfl
 mono:=by rintro _ _ cs x _ h;exact h
 one:=by rintro _ cs x ⟨rfl,_⟩ u hu;simp at hu;rcases hu with rfl|rfl|rfl<;>rfl
def rPr:Rd (Int×Int) where
 sz:=2
 den _ cs x:=cs=[iV x.1,iV x.2]/\I64 x.1/\I64 x.2
 len:=by rintro _ cs x ⟨rfl,_⟩;rfl
 mono:=by rintro _ _ cs x _ h;exact h
 one:=by rintro _ cs x ⟨rfl,_⟩ u hu;simp at hu;rcases hu with rfl|rfl<;>rfl
def SV{α:Type}(R:Rd α)(C:Mem)(l:List α)(v:Value):Prop:=∃a c,v= .slice a l.length c/\Sl R C a l/\l.length<=c
theorem SV.mono{α:Type}{R:Rd α}{C D:Mem}{l:List α}{v:Value}(h:SV R C l v)(hc:∀b o v,C b o v ->D b o v):SV R D l v:=by
 obtain⟨a,c,d,e,f⟩:=h;exact⟨a,c,d,e.mono hc,f⟩
theorem SV.one{α:Type}{R:Rd α}{C:Mem}{l:List α}{v:Value}(h:SV R C l v):v.oneCell'=true:=by
 obtain⟨a,c,rfl,_⟩:=h
 rfl
theorem TmV.sv{C:Mem}{x:Tr}{v:Value}:TmV C x v↔SV rNd C (row x) v:=Iff.rfl
theorem TmsV.sv{C:Mem}{ys:List Tr}{v:Value}:TmsV C ys v↔SV (gJ rNd) C (ys.map row) v:=by
 unfold TmsV SV;simp
def rCt:Rd dy where
 sz:=2
 den C cs x:=∃v u,cs=[v,u]/\SV (gJ rNd) C x.args v/\SV (gJ rNd) C x.out u
 len:=by rintro C cs x ⟨v,u,rfl,_⟩;rfl
 mono:=by rintro C C' cs x hc ⟨v,u,rfl,h1,h2⟩;exact⟨v,u,rfl,h1.mono hc,h2.mono hc⟩
 one:=by rintro C cs x ⟨v,u,rfl,h1,h2⟩ z hz;simp at hz;rcases hz with rfl|rfl;exact h1.one;exact h2.one
def rEn:Rd cf where
 sz:=7
 den C cs x:=∃v1 v2 v3 v4 v5 v6,cs=[iV x.kind,v1,v2,v3,v4,v5,v6]/\I64 x.kind/\SV rNd C x.sort v1/\SV (gJ rNd) C x.params v2/\SV (gJ rNd) C x.indices v3/\SV rCt C x.ctors v4/\SV rNd C x.type v5/\SV rNd C x.body v6
 len:=by rintro C cs x ⟨v1,v2,v3,v4,v5,v6,rfl,_⟩;rfl
 mono:=by rintro C C' cs x hc ⟨v1,v2,v3,v4,v5,v6,rfl,h0,h1,h2,h3,h4,h5,h6⟩;exact⟨v1,v2,v3,v4,v5,v6,rfl,h0,h1.mono hc,h2.mono hc,h3.mono hc,h4.mono hc,h5.mono hc,h6.mono hc⟩
 one:=by
  rintro C cs x ⟨v1,v2,v3,v4,v5,v6,rfl,h0,h1,h2,h3,h4,h5,h6⟩ z hz;simp at hz;rcases hz with rfl|rfl|rfl|rfl|rfl|rfl|rfl
  ·rfl
  ·exact h1.one
  ·exact h2.one
  ·exact h3.one
  ·exact h4.one
  ·exact h5.one
  ·exact h6.one
def rBo:Rd ak where
 sz:=5
 den C cs x:=∃v1 v2 v3,cs=[iV x.vars,v1,v2,iV x.nat,v3]/\I64 x.vars/\I64 x.nat/\SV rOr C x.orders v1/\SV rEn C x.ents v2/\SV rPr C x.prims v3
 len:=by rintro C cs x ⟨v1,v2,v3,rfl,_⟩;rfl
 mono:=by rintro C C' cs x hc ⟨v1,v2,v3,rfl,h0,h1,h2,h3,h4⟩;exact⟨v1,v2,v3,rfl,h0,h1,h2.mono hc,h3.mono hc,h4.mono hc⟩
 one:=by
  rintro C cs x ⟨v1,v2,v3,rfl,h0,h1,h2,h3,h4⟩ z hz;simp at hz;rcases hz with rfl|rfl|rfl|rfl|rfl
  ·rfl
  ·exact h2.one
  ·exact h3.one
  ·rfl
  ·exact h4.one
def rBd:Rd (List Nd×List Nd) where
 sz:=2
 den C cs x:=∃v u,cs=[v,u]/\SV rNd C x.1 v/\SV rNd C x.2 u
 len:=by rintro C cs x ⟨v,u,rfl,_⟩;rfl
 mono:=by rintro C C' cs x hc ⟨v,u,rfl,h1,h2⟩;exact⟨v,u,rfl,h1.mono hc,h2.mono hc⟩
 one:=by rintro C cs x ⟨v,u,rfl,h1,h2⟩ z hz;simp at hz;rcases hz with rfl|rfl;exact h1.one;exact h2.one
section
variable{α:Type}{R:Rd α}{C:Mem}{l:List α}{v:Value}
theorem SV.nil(R:Rd α)(C:Mem):SV R C [] (.slice none 0 0):=⟨none,0,rfl,Sl.nil _ _ _,KJ _⟩
end
end Go.Q
