import Derived.Test.YtdfeclpphaccnaaGreatMs04
import Derived.Lib.AppendZerosOnto
set_option linter.all false
set_option maxHeartbeats 4000000
open Go.Proofs Go.Proofs.Tryz Cd Go Go.Wx Tm
namespace Go.Wx
def rVal:Rd Value where
 sz:=1
 den C cs x:=cs=[x]/\x.oneCell'=true
 len:=by rintro C cs x ⟨rfl,_⟩;rfl
 mono:=by rintro C C' cs x hc h;exact h
 one:=by rintro C cs x ⟨rfl,h⟩ u hu;simp at hu;subst hu;exact h
theorem AQ':Flat rVal:=λ_ _ _ _ h=>h
theorem Sl.none_nil{α:Type}{R:Rd α}{C:Mem}{l:List α}(h:Sl R C none l):l=[]:=by
 rcases h.2 with h|⟨_,_,h,_⟩
 ·exact List.length_eq_zero_iff.1 h
 ·cases h
end Go.Wx
namespace Go.Q
def Kd(l:List Nd)(w w':World)(v:Value):Prop:=∃a c,v= .slice a l.length c/\Sl rNd (New w.heap.size w') a l/\l.length<=c
structure PtS(C:Mem)(w0 w:World)(t:List Nd)(ta:Option Addr)(cap bt ba bo br bn:Nat)(cn:List Value)(p:Nat)(vo vr:Value)(os:List Value)(rs:List Int):Prop where
 sub:Sub C w
 k0:Kp [] w0 w
 low:w0.heap.size<=bt/\w0.heap.size<=ba/\w0.heap.size<=bo/\w0.heap.size<=br/\w0.heap.size<=bn
 nd:[bt,ba,bo,br,bn].Nodup
 cbt:Bk w.heap bt [.slice ta t.length cap] 29
 cba:Bk w.heap ba [iV (p:Int)] 3
 cbo:Bk w.heap bo [vo] 67
 cbr:Bk w.heap br [vr] 136
 cbn:Bk w.heap bn cn 46
 oo:Own rVal 29 w0.heap.size w vo os
 orr:Own wv' 3 w0.heap.size w vr rs
 f1:∀g,vo.ownBlock=some g ->g ∉ [bt,ba,bo,br,bn]/\vr.ownBlock≠some g
 f2:∀g,vr.ownBlock=some g ->g ∉ [bt,ba,bo,br,bn]
end Go.Q
namespace Tm
def kidsT:Tr ->List Tr
 | .mk n ks=>if n.op=2 then []else if n.op=12 then ks.flatMap (·.ks)else ks
def uJ(C:Mem)(os:List Value)(ys:List Tr):Prop:=os.length=ys.length/\∀(i:Nat) v y,os[i]?=some v ->ys[i]?=some y ->∃a c,v= .slice a (row y).length c/\Sl rNd C a (row y)/\(row y).length<=c
theorem gf':∀{ks:List Tr},(∀k∈ks,k.ks.length=2) ->(ks.flatMap (·.ks)).length=2*ks.length
 |[],_=>rfl
 |k::r,h=>by
  simp only[List.flatMap_cons,JK,JV];rw[h k Ud,gf' λk a=>h k (by simp[a])];omega
end Tm
namespace Go.Q
def kbT(n:Nd)(k:Nat):Int:=if n.op=12 then (if k%2=1 then n.b else 0)else bh n k
def D8(ys:List Tr)(w w':World)(v:Value):Prop:=∃a c,v= .slice a ys.length c/\Sl (iv rNd) (New w.heap.size w') a (ys.map row)/\ys.length<=c
theorem iy{x:Tr}(l:Ok .tm x):(kidsT x).length<=18:=by
 obtain⟨n,m⟩:=x;obtain⟨o,c,b⟩:=l.kids;obtain⟨d,_,_,e⟩:=fq o;have p:=nX d;simp only[kidsT];split
 ·simp
 ·rename_i q
  rw[KY q]at e;split
  ·rename_i a
   have:aX n.b 1 4=true:=by simp[aG,a]at d;exact d.1
   have t:=dE.1 this;have g:bv n=n.b:=by simp[bv,a]
   have i:∀(r:List Tr) (k:Nat),bC cnt nx r n .tm k ->fc' r=true ->(r.flatMap (·.ks)).length=2*r.length:=by
    intro r
    induction r with
    |nil=>intros;rfl
    |cons y r s=>
     intro k g b;obtain⟨j,_,_⟩:=kJ g b;rw[show nx Md.tm n 0= .fn by simp[nx,a]]at j;obtain⟨f,u,w,rfl,_⟩:=j.fn;simp only[List.flatMap_cons,JK,JV];rw[s (k+1) g.2 (o7 b).2];simp[Tr.ks];omega
   rw[i m 0 c b];omega
  ·omega
mutual
theorem ip':∀(x:Tr),∀y∈kidsT x,(row y).length<(row x).length
 | .mk n ks=>λy a=>by
  simp only[row,JV];simp only[kidsT]at a;split at a
  ·cases a
  ·split at a
   ·obtain⟨f,d,b⟩:=List.mem_flatMap.1 a
    have c:=eO' d;obtain⟨m,l⟩:=f;simp only[Tr.ks]at b;have e:=eO' b;simp only[row,JV]at c;omega
   ·have c:=eO' a
    omega
theorem eO':∀{ks:List Tr} {y:Tr},y∈ks ->(row y).length<=(rows ks).length
 |x::r,y,h=>by
  simp only[rows,JK];rcases List.mem_cons.1 h with rfl|h
  ·omega
  ·have:=eO' h
   omega
end
end Go.Q
namespace Tm
mutual
def headT:Tr ->Tr
 | .mk n ks=>if n.op=6 then Ec' ks (.mk n ks)else .mk n ks
def Ec':List Tr ->Tr ->Tr
 |[],x=>x
 |f::_,_=>headT f
end
mutual
def argsT:Tr ->List Tr
 | .mk n ks=>if n.op=6 then Ed' ks else []
def Ed':List Tr ->List Tr
 |[]=>[]
 |f::r=>argsT f++r
end
theorem pc{n:Nd}{ks:List Tr}(i:Ok .tm (.mk n ks))(d:n.op=6):∃f a,ks=[f,a]/\Ok .tm f/\Ok .tm a:=by
 obtain⟨j,c,k⟩:=i.kids;obtain⟨_,_,_,b⟩:=fq j;simp[d,bv]at b
 match ks,b with
 |[f,a],_=>
  obtain⟨e,l,m⟩:=kJ c k;obtain⟨g,_,_⟩:=kJ l m;rw[show nx Md.tm n 0= .tm by simp[nx,d]]at e g;exact⟨f,a,rfl,e,g⟩
theorem mV{n:Nd}{f a:Tr}(b:n.op=6):headT (.mk n [f,a])=headT f:=by simp[headT,Ec',b]
theorem mW{n:Nd}{f a:Tr}(b:n.op=6):argsT (.mk n [f,a])=argsT f++[a]:=by simp[argsT,Ed',b]
theorem n9{n:Nd}{ks:List Tr}(a:n.op≠6):headT (.mk n ks)= .mk n ks:=by simp[headT,a]
theorem pd{n:Nd}{ks:List Tr}(a:n.op≠6):argsT (.mk n ks)=[]:=by simp[argsT,a]
end Tm
namespace Go.Wx
abbrev CC(f:FuncId)(args:Array Value)(w:World)(R:Ending ->World ->Prop):Prop:=dM Go.Proofs.Tryz.prog f/\Calls Go.Proofs.Tryz.prog f args w R
end Go.Wx
namespace Go.Q
theorem nz':∀(N:Nat) (x:Tr),(row x).length<=N ->Ok .tm x ->(row (headT x)).length<=(row x).length/\(argsT x).length+(row (headT x)).length<=(row x).length/\Ok .tm (headT x)/\∀y∈argsT x,Ok .tm y/\(row y).length<(row x).length
 |0,x,h,_=>by have:=aZ x;omega
 |N+1,.mk n l,h,d=>by
  by_cases c:n.op=6
  ·obtain⟨f,a,rfl,e,g⟩:=pc d c
   have i:(row (.mk n [f,a])).length=1+(row f).length+(row a).length:=by simp[row,rows];omega
   obtain⟨m,o,j,k⟩:=nz' N f Uo e;rw[mV c,mW c,i];have p:=aZ a;refine⟨Uo,by simp only[JK,JV,JU];omega,j,λy b=>?_⟩;rcases List.mem_append.1 b with b|b
   ·obtain⟨q1,q⟩:=k y b
    exact⟨q1,Uo⟩
   ·obtain rfl:y=a:=by simpa using b
    exact⟨g,Uo⟩
  ·rw[n9 c,pd c]
   exact⟨KJ _,Ud,d,λy b=>by cases b⟩
theorem mX{T e sz bs ty:Nat}(b:Go.Wx.look τ.slcs T=some (e,sz,bs)){a:Option Addr}{n c:Nat}{w:World}{k:Value ->World ->Prop}(h:k (iV c) w):EvRun prog (Builtin.cap_ #[T] ty #[.slice a n c]) w k:=by
 obtain⟨d,_⟩:=τok.slcs T e sz bs b;exact run (by simp[Builtin.cap_,run_underlying d,goInt]) h
theorem Ke(z:Array Value)(n:Nat):(Builtin.zeroCells z n).size=n*z.size:=by simp[Builtin.zeroCells]
theorem uK{α:Type}{R:Rd α}{T e bs:Nat}{z:List Value}(A:Go.Wx.look τ.slcs T=some (e,R.sz,bs))(C:τ.zero e=some z)(t:0<R.sz)(l:z.length=R.sz)(f:bs<=100){w:World}{k:Value ->World ->Prop}(n:Nat)(D:0<n)(E:n<=1000000){ty:Nat}(F:∀B G w',B=w.heap.size ->n<=G ->Own R e w.heap.size w' (.slice (some ⟨B,0,none⟩) 0 G) [] ->Kp [] w w' ->k (.slice (some ⟨B,0,none⟩) n G) w'):
  EvRun prog (Builtin.append_ #[T,3] ty #[.slice none 0 0,iV (n:Int)]) w k:=by
 obtain⟨H,m,d,o,g⟩:=τok.slcs T e R.sz bs A;obtain⟨a,v0,c,I,p,u⟩:=mA τok (T:=e) (z:=z) C;have:a=m:=by rw[c]at d;simpa using d
 subst this;have q:v0.cells.size=R.sz:=by rw[p];simpa using l
 have i:n*bs<=1000000*100:=Nat.mul_le_mul E f;have h:=Lib.run_append_grow_zeros (P:=prog) w T 3 ty e a v0 .i64 .i64 H underlying3 c I none 0 0 [] (run_firstCells_none (w:=w.drew) a.size 0 0 0) n D Uo Uo Uk (by rw[g];exact KQ i UO)
  (by rw[g];exact growslice_fits Uo (by rw[KW];exact KQ i UO))
 rw[KW]at h;have r:=grownCap_ge w n 0 e;have j:=grownCap_le_maxLen w n 0 e (by unfold maxLen;omega)
 generalize grownCap w n 0 e=G at h r j
 have s:Kp [] w (w.drew.alloc (.cells (#[]++Builtin.zeroCells v0.cells n++Builtin.zeroCells v0.cells (G-n)) e)):=⟨rfl,rfl,rfl,by
  show w.heap.size<=(w.heap.push _).size;simp,λb y _=>by
  show (w.heap.push _)[b]?=_;rw[Array.getElem?_push_lt y];simp[y]⟩
 refine run h (F _ _ _ rfl r ⟨⟨[],⟨Ud,.inr ⟨w.heap.size,G,#[]++Builtin.zeroCells v0.cells n++Builtin.zeroCells v0.cells (G-n),rfl,KJ _,?_,Ud,j,?_,Ud⟩⟩,trivial⟩,?_⟩ s)
 ·show (w.heap.push _)[w.heap.size]?=_
  simp
 ·have:n*R.sz+(G-n)*R.sz=G*R.sz:=by rw[<- Nat.add_mul,Nat.add_sub_cancel' r]
  simp[Ke,q,this]
 ·show w.heap.size<=(w.heap.push _).size
  simp
theorem Kf(n:Nat)(a:0<n)(b:n<=1000000)(w:World):
  CC 241 #[.slice none 0 0,iV (n:Int)] w (λe w'=>∃v,e= .returned v/\Own rNd 46 w.heap.size w' v []/\Kp [] w w'):=by
 refine oF func241 ?_;refine cO (args:=[_,_]) 27 [.tmp 4] τok func241 ?_;refine mX rfl<|i6 ?_;refine i6 ?_;refine dm (λg=>?_) (λg=>?_);rotate_left
 ·exact absurd Uo g
 refine mX rfl<|nL τok rfl 0 (.slice none 0 0) rfl (KJ _) rfl ?_;have e:((n:Int)-((0:Nat)-(0:Nat):Int))=(n:Int):=Uo
 rw[e];refine uK (R:=rNd) rfl rfl UO rfl UO n a b λB G f i j c d=>?_;exact nL τok rfl 0 _ rfl (KV _) oP<|⟨_,rfl,c,d⟩
end Go.Q
namespace Tm
def appN:Nd:=⟨6,0,0⟩
def an':Tr ->List Tr ->Tr
 |x,[]=>x
 |x,y::r=>an' (.mk appN [x,y]) r
theorem bK':∀(ys:List Tr) (x:Tr),row (an' x ys)=List.replicate ys.length appN++(row x++rows ys)
 |[],x=>by simp[an',rows]
 |y::r,x=>by
  rw[an',bK' r];simp only[row,rows,JV,JD];rw[List.replicate_succ'];simp[List.append_assoc]
theorem eQ':∀(ys:List Tr) (x:Tr),Ok .tm x ->(∀y∈ys,Ok .tm y) ->Ok .tm (an' x ys)
 |[],x,a,_=>a
 |y::r,x,a,b=>by
  rw[an'];refine eQ' r _ ?_ (λz c=>b z (by simp[c]));have h1:=b y Ud;exact⟨⟨show cnt .tm appN=some 2 by decide,a.1,h1.1,trivial⟩,by simp[gQ',fc',appN,a.2,h1.2]⟩
theorem Kg{D:Mem}{a:Option Addr}{ys:List Tr}(h:Sl (iv rNd) D a (ys.map row)):∃vs,Sl rVal D a vs/\uJ D vs ys:=by
 have r:=h.1;rw[KF]at r;rcases h.2 with t|⟨b,o,rfl,w⟩
 ·have:ys=[]:=by simpa using t
  subst this;exact⟨[],Sl.nil _ _ _,rfl,λi v y g=>by simp at g⟩
 ·have g:∀i:Nat,∃v,∀y,ys[i]?=some y ->(∃a c,v= .slice a (row y).length c/\Sl rNd D a (row y)/\(row y).length<=c)/\D b (o+i*1) v:=λi=>by
   cases e:ys[i]? with
   |none=>exact⟨.slice none 0 0,λy m=>by cases m⟩
   |some y=>
    obtain⟨E,⟨n,p,rfl,A,q⟩,B⟩:=w i (row y) (by rw[JX,e];rfl);refine⟨.slice n (row y).length p,λz C=>?_⟩;obtain rfl:=JB C;exact⟨⟨n,p,rfl,q,A⟩,B 0 _ rfl⟩
  obtain⟨f,s⟩:=Classical.axiomOfChoice g;have k:∀(i:Nat) (v:Value),((List.range ys.length).map f)[i]?=some v ->i<ys.length/\v=f i:=λi v g=>by
   rw[JX]at g;obtain⟨j,l,rfl⟩:=Option.map_eq_some_iff.1 g;have d:=aM l;simp at d;rw[List.getElem?_range d]at l;obtain rfl:=JB l;exact⟨d,rfl⟩
  refine⟨(List.range ys.length).map f,⟨by simpa using r,.inr ⟨b,o,rfl,λi v g=>?_⟩⟩,Ud,λi v y g m=>?_⟩
  ·obtain⟨d,rfl⟩:=k i v g
   obtain⟨y,m⟩:∃y,ys[i]?=some y:=⟨ys[i],Ud⟩
   obtain⟨⟨n,p,e,_⟩,q⟩:=s i y m;refine⟨[f i],⟨rfl,by rw[e];rfl⟩,λj u l=>?_⟩
   match j with
   |0=>
    obtain rfl:=JB l;exact q
   |j+1=>simp at l
  ·obtain⟨d,rfl⟩:=k i v g
   exact(s i y m).1
theorem fs':∀ys:List Tr,(ys.map row).flatten=rows ys
 |[]=>rfl
 |y::r=>by rw[List.map_cons,List.flatten_cons,fs' r,rows]
end Tm
namespace Go.Q
end Go.Q
namespace Tm
def eX(op:Int):List Tr ->Tr ->Tr
 |[],x=>x
 |d::r,x=>.mk ⟨op,0,0⟩ [d,eX op r x]
def dV(op:Int)(ys:List Tr):List Nd:=ys.flatMap λd=>⟨op,0,0⟩::row d
theorem uL(op:Int):∀(ys:List Tr) (x:Tr),row (eX op ys x)=dV op ys++row x
 |[],x=>by simp[eX,dV]
 |d::r,x=>by
  simp only[eX,row,rows,dV,List.flatMap_cons,JD];rw[uL op r x];simp[dV]
theorem zd{op:Int}(a:op=4 \/op=5):∀(ys:List Tr) (x:Tr),Ok .tm x ->(∀y∈ys,Ok .tm y) ->Ok .tm (eX op ys x)
 |[],x,b,_=>b
 |d::r,x,b,c=>by
  have h1:=c d Ud;have e:=zd a r x b (λz g=>c z (by simp[g]));rw[eX];have i:cnt .tm ⟨op,0,0⟩=some 2:=by rcases a with rfl|rfl<;>decide
  have f:∀k,nx .tm ⟨op,0,0⟩ k= .tm:=λk=>by rcases a with rfl|rfl<;>rfl
  refine⟨⟨i,by rw[f];exact h1.1,by rw[f];exact e.1,trivial⟩,?_⟩;have:op≠2:=Uo
  simp[gQ',fc',h1.2,e.2,this]
theorem Kh(op:Int)(ys:List Tr)(d:Tr):dV op (ys++[d])=dV op ys++(⟨op,0,0⟩::row d):=by simp[dV]
theorem preB_take(op:Int)(ys:List Tr)(i:Nat):(dV op (ys.take i)).length<=(dV op ys).length:=by
 have:dV op ys=dV op (ys.take i)++dV op (ys.drop i):=by
  unfold dV;rw[<- List.flatMap_append,List.take_append_drop]
 rw[this,JK];omega
end Tm
namespace Go.Q
end Go.Q
namespace Tm
def BlD(x:Tr)(d nb n:Int):Prop:=∀q∈varsT x d nb,q.1-q.2<n
mutual
theorem ze(e:Int):∀(x:Tr) (d nb:Int),varsT x (d+e) nb=(varsT x d nb).map λq=>(q.1,q.2+e)
 | .mk n ks,d,nb=>by
  simp only[varsT];split
  ·rfl
  ·exact D9 e ks n nb 0 d
theorem D9(e:Int):∀(ks:List Tr) (n:Nd) (nb k d:Int),varsK ks n nb k (d+e)=(varsK ks n nb k d).map λq=>(q.1,q.2+e)
 |[],n,nb,k,d=>rfl
 |x::r,n,nb,k,d=>by
  simp only[varsK,KB];rw[<- ze e x (d+arC n nb k) n.b,<- D9 e r n nb (k+1) d,show d+e+arC n nb k=d+arC n nb k+e by omega]
end
theorem BlD.sh{x:Tr}{d nb n:Int}(e:Int):BlD x (d+e) nb n↔BlD x d nb (n+e):=by
 unfold BlD;rw[ze];constructor
 ·intro h q a
  have:=h (q.1,q.2+e) (QD a);simp only at this;omega
 ·intro h q a
  obtain⟨p,b,rfl⟩:=List.mem_map.1 a;have:=h p b;simp only;omega
theorem BlD.z{x:Tr}{d nb n:Int}:BlD x d nb n↔BlD x 0 nb (n+d):=by
 rw[<- BlD.sh];simp
theorem uM{x:Tr}(h:x.n.op≠13)(d nb a:Int):varsT x d nb=varsT x d a:=by
 obtain⟨m,l⟩:=x;simp only[Tr.n]at h;simp only[varsT];have:∀(l:List Tr) (k d nb a:Int),varsK l m nb k d=varsK l m a k d:=by
  intro l
  induction l with
  |nil=>intros;rfl
  |cons y l b=>
   intro k d nb a;simp only[varsK,mU h,b (k+1) d nb a]
 rw[this l 0 d nb a]
theorem Ok.n13{x:Tr}(h:Ok .tm x):x.n.op≠13:=by
 obtain⟨n,a⟩:=x;exact h.tm.2.2
def Bl(x:Tr)(n:Int):Prop:=BlD x 0 0 n
theorem Bl.mono{x:Tr}{n m:Int}(h:Bl x n)(hm:n<=m):Bl x m:=λq a=>by have:=h q a;omega
theorem Ok.bld{x:Tr}(h:Ok .tm x){d nb n:Int}:BlD x d nb n↔Bl x (n+d):=by
 rw[BlD.z];unfold Bl BlD;rw[uM h.n13 0 nb 0]
def Al(Q:Nd ->Prop)(x:Tr):Prop:=∀m∈row x,Q m
def lI(Q:Nd ->Prop)(l:List Tr):Prop:=∀m∈rows l,Q m
theorem lJ{Q:Nd ->Prop}{n:Nd}{ks:List Tr}:Al Q (.mk n ks)↔Q n/\lI Q ks:=by simp[Al,lI,row]
theorem oa{Q:Nd ->Prop}{x:Tr}{r:List Tr}:lI Q (x::r)↔Al Q x/\lI Q r:=by
 unfold lI Al;simp only[rows,JW];exact⟨λh=>⟨λm a=>h m (.inl a),λm a=>h m (.inr a)⟩,λh m a=>a.elim (h.1 m) (h.2 m)⟩
theorem zf{Q:Nd ->Prop}:∀{l:List Tr} {x:Tr},lI Q l ->x∈l ->Al Q x
 |y::r,x,h,a=>by
  rw[oa]at h;rcases List.mem_cons.1 a with rfl|a
  ·exact h.1
  ·exact zf h.2 a
theorem Al.mono{Q R:Nd ->Prop}{x:Tr}(h:Al Q x)(a:∀m,Q m ->R m):Al R x:=λm b=>a m (h m b)
section
variable{h:Int ->Nd ->Option Tr}{Q:Nd ->Prop}
mutual
theorem AR':∀(x:Tr) (d nb:Int) (y:Tr),(∀m∈row x,m.op=1 ->∀d z,h d m=some z ->Al Q z) ->Al Q x ->gT h x d nb=some y ->Al Q y
 | .mk n ks,d,nb,y,c,a,e=>by
  simp only[gT]at e;split at e
  ·rename_i h1
   exact c n (by simp[row]) h1 d y e
  ·split at e
   ·cases e
   ·rename_i b f
    obtain rfl:=JB e;rw[lJ]at a ⊢;exact⟨a.1,Ef' ks n nb 0 d b (λm g=>c m (by simp[row,g])) a.2 f⟩
theorem Ef':∀(ks:List Tr) (n:Nd) (nb k d:Int) (a:List Tr),(∀m∈rows ks,m.op=1 ->∀d z,h d m=some z ->Al Q z) ->lI Q ks ->gK h ks n nb k d=some a ->lI Q a
 |[],n,nb,k,d,a,c,b,e=>by
  simp only[gK,QZ]at e;subst e;exact b
 |x::r,n,nb,k,d,a,c,b,e=>by
  simp only[gK]at e;split at e
  ·cases e
  rename_i y g;split at e
  ·cases e
  rename_i i hr;obtain rfl:=JB e;rw[oa]at b ⊢;exact⟨AR' x _ _ y (λm f=>c m (by simp[rows,f])) b.1 g,Ef' r n nb (k+1) d i (λm f=>c m (by simp[rows,f])) b.2 hr⟩
end
mutual
theorem zg{M:Int}(b:∀d n y,h d n=some y ->n.op=1 ->aG n=true ->Ok .tm y):∀(x:Tr) (s:Md) (d nb:Int) (y:Tr),okT cnt nx x s ->(∀q∈varsT x d nb,∀m:Nd,m.op=1 ->aG m=true ->m.a=q.1 ->∀z,h q.2 m=some z ->Bl z (M+q.2)) ->gT h x d nb=some y ->BlD y d nb M
 | .mk n ks,s,d,nb,y,k,i,e=>by
  obtain⟨hc,l⟩:=k;simp only[gT]at e;split at e
  ·rename_i a
   have j:aG n=true:=by
    cases s with
    |tm=>exact(fq hc).1
    |fn=>exact(o8 hc).1
    |am=>
     simp only[cnt]at hc;split at hc
     ·rename_i q
      exact q.2
     ·cases hc
   rw[(b d n y e a j).bld];exact i (n.a,d) (by simp[varsT,a]) n a j rfl y e
  ·rename_i a
   split at e
   ·cases e
   ·rename_i f g
    obtain rfl:=JB e;have:=Ea b ks n s nb 0 d 0 f l (λq c=>i q (by simpa[varsT,a]using c)) g;intro q c;rw[varsT,KY a]at c;exact this q c
theorem Ea{M:Int}(c:∀d n y,h d n=some y ->n.op=1 ->aG n=true ->Ok .tm y):∀(ks:List Tr) (n:Nd) (s:Md) (nb k d:Int) (j:Nat) (a:List Tr),bC cnt nx ks n s j ->(∀q∈varsK ks n nb k d,∀m:Nd,m.op=1 ->aG m=true ->m.a=q.1 ->∀z,h q.2 m=some z ->Bl z (M+q.2)) ->gK h ks n nb k d=some a ->∀q∈varsK a n nb k d,q.1-q.2<M
 |[],n,s,nb,k,d,j,a,f,g,e=>by
  simp only[gK,QZ]at e;subst e;intro q b;simp[varsK]at b
 |x::r,n,s,nb,k,d,j,a,f,g,e=>by
  obtain⟨f,hr⟩:=f;simp only[gK]at e;split at e
  ·cases e
  rename_i y l;split at e
  ·cases e
  rename_i o i;obtain rfl:=JB e;have p:=zg c x (nx s n j) _ _ y f (λq b=>g q (by simp[varsK,b])) l;have t:=Ea c r n s nb (k+1) d (j+1) o hr (λq b=>g q (by simp[varsK,b])) i;intro q b;simp only[varsK,JW]at b;exact b.elim (p q) (t q)
end
end
theorem Eb{x:Tr}(f:Ok .tm x)(i:eu x){b n:Int}(j:0<=b)(hb:b<=500000)(h:Bl x n):Bl (aK x b 0) (n+b):=by
 have:=zg (h:=gr b 0) (M:=n+b) (λd m y e c a=>DV j a c e) x .tm 0 0 _ f.1 (λq g m c a k z e=>by
  have g:=h q g;simp only[gr]at e;split at e
  ·split at e
   ·cases e
   ·obtain rfl:=JB e
    intro p a;simp only[varsT,c,if_true,JJ,JZ,or_false]at a;subst a;simp only;omega
  ·obtain rfl:=JB e
   intro p a;simp only[varsT,c,if_true,JJ,JZ,or_false]at a;subst a;simp only;omega) (n8 f i hb)
 exact this
theorem Ec{Q:Nd ->Prop}(c:∀m:Nd,m.op=1 ->Q m){x:Tr}(i:Ok .tm x)(j:eu x){b f:Int}(hb:b<=500000)(h:Al Q x):Al Q (aK x b f):=
 AR' x 0 0 _ (λm l g d z e=>by
  simp only[gr]at e;intro k a;split at e
  ·split at e
   ·cases e
   ·obtain rfl:=JB e
    simp only[row,rows,JJ,JZ,or_false]at a;subst a;exact c _ g
  ·obtain rfl:=JB e
   simp only[row,rows,JJ,JZ,or_false]at a;subst a;exact c _ g) h (n8 i j hb)
theorem Ki{Q:Nd ->Prop}(a:∀m:Nd,m.op=1 ->Q m){x:Tr}(c:Ok .tm x)(d:eu x)(b:Int)(h:Al Q x):Al Q (kM x b):=by
 unfold kM;split
 ·rename_i g
  exact Ec a c d g.2 h
 ·exact h
theorem Kj{Q:Nd ->Prop}(b:∀m:Nd,m.op=1 ->Q m){x u:Tr}(f:Ok .tm x)(g:Ok .tm u)(i:eu u){v:Int}(h:Al Q x)(j:Al Q u):Al Q (fH x u v):=
 AR' x 0 0 _ (λm l c d z e=>by
  simp only[fG]at e;split at e
  ·obtain rfl:=JB e
   exact Ki b g i _ j
  ·intro k a
   split at e
   ·obtain rfl:=JB e
    simp only[row,rows,JJ,JZ,or_false]at a;subst a;exact b _ c
   ·obtain rfl:=JB e
    simp only[row,rows,JJ,JZ,or_false]at a;subst a;exact b _ c) h (qn f v)
theorem Kl{x u:Tr}(g:Ok .tm x)(j:Ok .tm u)(k:eu u)(hl:(row x).length<=4096){v n:Int}(t:0<=v)(w:v<=300000)(A:0<=n)(h:Bl x (n+1+v))(r:Bl u n):Bl (fH x u v) (n+v):=by
 have i:=fr' x .tm 0 0 g.1 Uo Uo Uo;have:=zg (M:=n+v) (h:=fG u v) (λd m y e f a=>by
   have c:aX m.a 0 1048576=true/\m.b=0:=by simpa[aG,f]using a
   have l:=dE.1 c.1;simp only[fG]at e;split at e
   ·obtain rfl:=JB e
    exact D4 j k _
   ·split at e
    ·obtain rfl:=JB e
     exact o9 (by simpa using f) Us Us c.2
    ·obtain rfl:=JB e
     exact o9 f l.1 l.2 c.2) x .tm 0 0 _ g.1 (λq o m f a B z e=>by
  have s:=h q o;have C:=i q o;simp only[fG]at e;split at e
  ·obtain rfl:=JB e
   unfold kM;rw[KX Uo];have:=Eb j k (b:=v+q.2) Uo Uo r;exact this.mono Uo
  ·split at e
   ·obtain rfl:=JB e
    intro p a;simp only[varsT,f,if_true,JJ,JZ,or_false]at a;subst a;simp only;omega
   ·obtain rfl:=JB e
    intro p a;simp only[varsT,f,if_true,JJ,JZ,or_false]at a;subst a;simp only;omega) (qn g v)
 exact this
def iQ(l:List (Int×Int))(v:Int):Nat:=(l.filter λq=>decide (q.1-q.2=v)).length
theorem zh(v:Int):∀(l:List (Int×Int)) (s:Int×Int),(l.foldl (λs q=>if q.1-q.2=v then (s.1+1,max s.2 q.2)else s) s).1=s.1+iQ l v
 |[],s=>by simp[iQ]
 |q::r,s=>by
  simp only[List.foldl_cons,iQ,List.filter_cons];rw[zh v r]
  by_cases e:q.1-q.2=v
  ·simp[e,iQ];omega
  ·simp[e,iQ]
theorem Km(l m:List (Int×Int))(v:Int):iQ (l++m) v=iQ l v+iQ m v:=by simp[iQ]
section
variable{h:Int ->Nd ->Option Tr}{v:Int}{L:Nat}
mutual
theorem Ed(f:∀d n y,h d n=some y ->(row y).length<=1 \/(n.a-d=v/\(row y).length<=L))(i:1<=L):∀(x:Tr) (d nb:Int) (y:Tr) (s:Md),okT cnt nx x s ->gT h x d nb=some y ->((row y).length:Int)<=(row x).length+iQ (varsT x d nb) v*((L:Int)-1)
 | .mk n ks,d,nb,y,s,j,e=>by
  obtain⟨hc,k⟩:=j;simp only[gT]at e;split at e
  ·rename_i a
   have:ks=[]:=List.length_eq_zero_iff.1 (qj hc a);subst this;rcases f d n y e with g|⟨g,l⟩
   ·simp only[varsT,KX a,row,rows,iQ,List.filter_cons,List.filter_nil,List.length_singleton]
    split
    ·simp;omega
    ·simp;omega
   ·simp only[varsT,KX a,row,rows,iQ,List.filter_cons,List.filter_nil,List.length_singleton]
    simp[g];omega
  ·rename_i a
   split at e
   ·cases e
   ·rename_i b c
    obtain rfl:=JB e;have:=Ee f i ks n nb 0 d b s 0 k c;simp only[varsT,KY a,row,JV];omega
theorem Ee(f:∀d n y,h d n=some y ->(row y).length<=1 \/(n.a-d=v/\(row y).length<=L))(g:1<=L):∀(ks:List Tr) (n:Nd) (nb k d:Int) (a:List Tr) (s:Md) (j:Nat),bC cnt nx ks n s j ->gK h ks n nb k d=some a ->((rows a).length:Int)<=(rows ks).length+iQ (varsK ks n nb k d) v*((L:Int)-1)
 |[],n,nb,k,d,a,s,j,b,e=>by
  simp only[gK,QZ]at e;subst e;simp[rows,varsK,iQ]
 |x::r,n,nb,k,d,a,s,j,b,e=>by
  obtain⟨b,hr⟩:=b;simp only[gK]at e;split at e
  ·cases e
  rename_i y i;split at e
  ·cases e
  rename_i l c;obtain rfl:=JB e;have m:=Ed f g x _ _ y _ b i;have o:=Ee f g r n nb (k+1) d l s (j+1) hr c;simp only[rows,varsK,JK,Km,Int.natCast_add,Int.add_mul];omega
end
end
end Tm
namespace Go.Q
theorem uN{x u:Tr}(a:Ok .tm x)(b:Ok .tm u)(c:eu u){v:Int}(h:gY x u v=false):(row (fH x u v)).length<=4096:=by
 have i:=aZ u;have:=Ed (h:=fG u v) (v:=v) (L:=(row u).length) (λd n y e=>by
  simp only[fG]at e;split at e
  ·rename_i g
   obtain rfl:=JB e;exact .inr ⟨Uo,D7 b c _⟩
  ·split at e
   ·obtain rfl:=JB e
    exact .inl (by simp[row,rows])
   ·obtain rfl:=JB e
    exact .inl (by simp[row,rows])) Uo x 0 0 _ .tm a.1 (qn a v)
 have f:=zh v (varsT x 0 0) (0,0);unfold gY at h;have h:=of_decide_eq_false h;unfold pb at h;rw[f]at h;simp only[Int.zero_add]at h;omega
structure Ft(Q:Nd ->Prop)(N:Int)(x:Tr):Prop where
 ok:Ok .tm x
 len:(row x).length<=4096
 bl:Bl x N
 al:Al Q x
structure Qk(Q:Nd ->Prop):Prop where
 var:∀m:Nd,m.op=1 ->Q m
 app:∀m:Nd,m.op=4 \/m.op=5 \/m.op=6 \/m.op=2 \/m.op=12 ->Q m
section
variable{Q:Nd ->Prop}{N:Int}{x:Tr}
theorem Ft.mono(h:Ft Q N x){M:Int}(hm:N<=M):Ft Q M x:=⟨h.ok,h.len,h.bl.mono hm,h.al⟩
theorem Ft.wk(h:Ft Q N x){R:Nd ->Prop}(a:∀m,Q m ->R m):Ft R N x:=⟨h.ok,h.len,h.bl,h.al.mono a⟩
theorem Ft.small(h:Ft Q N x)(b:N<=100000):eu x:=λq a=>by
 have c:=fr' x .tm 0 0 h.ok.1 Uo Uo Uo q a;have d:=h.bl q a;have:=h.len;omega
theorem Ft.lift(d:Qk Q)(h:Ft Q N x)(a:N<=100000){b:Int}(c:0<=b)(hb:b<=500000):Ft Q (N+b) (aK x b 0):=
 ⟨y9 h.ok (h.small a) c hb,KQ (zb h.ok (h.small a) hb) h.len,Eb h.ok (h.small a) c hb h.bl,Ec d.var h.ok (h.small a) hb h.al⟩
theorem Ft.subst(e:Qk Q){u:Tr}{v:Int}(b:Ft Q (N+1+v) x)(a:Ft Q N u)(f:0<=N)(c:N<=100000)(d:0<=v)(g:v<=300000)(hb:gY x u v=false):Ft Q (N+v) (fH x u v):=
 ⟨za b.ok a.ok (a.small c),uN b.ok a.ok (a.small c) hb,Kl b.ok a.ok (a.small c) b.len d g f b.bl a.bl,Kj e.var b.ok a.ok (a.small c) b.al a.al⟩
theorem zi{n:Nd}{nb:Int}:∀(ks:List Tr) (j:Int) (d:Int) (k:Nat) (y:Tr),ks[k]?=some y ->∀q∈varsT y (d+arC n nb (j+k)) n.b,q∈varsK ks n nb j d
 |x::r,j,d,0,y,h,q,a=>by
  simp only[List.getElem?_cons_zero,QZ]at h;subst h;simp only[varsK,JW];exact .inl (by simpa using a)
 |x::r,j,d,k+1,y,h,q,a=>by
  simp only[List.getElem?_cons_succ]at h;simp only[varsK,JW];refine .inr (zi r (j+1) d k y h q ?_);rw[show j+1+(k:Int)=j+((k+1:Nat):Int) by omega];exact a
theorem jF{n:Nd}{s:Md}:∀(ks:List Tr) (j k:Nat) (y:Tr),bC cnt nx ks n s j ->ks[k]?=some y ->okT cnt nx y (nx s n (j+k))
 |x::r,j,0,y,h,a=>by
  simp only[List.getElem?_cons_zero,QZ]at a;subst a;exact h.1
 |x::r,j,k+1,y,h,a=>by
  have:=jF r (j+1) k y h.2 (by simpa using a);rw[show j+(k+1)=j+1+k by omega];exact this
theorem dK':∀(ks:List Tr) (k:Nat) (y:Tr),fc' ks=true ->ks[k]?=some y ->gQ' y=true
 |x::r,0,y,h,a=>by
  simp only[List.getElem?_cons_zero,QZ]at a;subst a;exact(o7 h).1
 |x::r,k+1,y,h,a=>dK' r k y (o7 h).2 (by simpa using a)
def kb(n:Nd)(k:Nat):Int:=if n.op=12 then (if k%2=1 then n.b else 0)else bh n k
theorem xh':∀(ks:List Tr),(∀k∈ks,k.ks.length=2) ->∀(i:Nat) (y:Tr),(ks.flatMap (·.ks))[i]?=some y ->∃f,ks[i/2]?=some f/\f.ks[i%2]?=some y
 |[],_,i,y,h=>by simp at h
 |f::r,b,i,y,h=>by
  simp only[List.flatMap_cons]at h;have c:=b f Ud
  by_cases j:i<2
  ·rw[QH Uo]at h
   refine⟨f,?_,?_⟩
   ·rw[show i/2=0 by omega];rfl
   ·rw[show i%2=i by omega];exact h
  ·rw[QU Uo,c]at h
   obtain⟨g,d,e⟩:=xh' r (λk a=>b k (by simp[a])) (i-2) y h;refine⟨g,?_,?_⟩
   ·rw[show i/2=(i-2)/2+1 by omega];exact d
   ·rw[show i%2=(i-2)%2 by omega];exact e
theorem Ef{Q:Nd ->Prop}{ks:List Tr}{k:Nat}{y:Tr}(h:lI Q ks)(a:ks[k]?=some y):Al Q y:=zf h (JQ a)
theorem Ft.node{n:Nd}{ks:List Tr}(h:Ft Q N (.mk n ks)):Q n:=(lJ.1 h.al).1
theorem Ft.var_lt{n:Nd}{ks:List Tr}(h:Ft Q N (.mk n ks))(h1:n.op=1):0<=n.a/\n.a<N/\ks=[]:=by
 have a:=h.ok.tm.1;have:=h.bl (n.a,0) (by simp[varsT,h1]);have b:=dn a;exact⟨b.2.2.1,by simpa using this,List.length_eq_zero_iff.1 (qj h.ok.kids.1 h1)⟩
theorem Ft.kid{n:Nd}{ks:List Tr}(h:Ft Q N (.mk n ks)){k:Nat}{y:Tr}(c:(kidsT (.mk n ks))[k]?=some y):Ft Q (N+kb n k) y:=by
 obtain⟨R,m,E⟩:=h.ok.kids;obtain⟨S,T,o⟩:=h.ok.tm;have U:=ip' (.mk n ks) y (JQ c);have F:=h.len;have H:=(lJ.1 h.al).2;simp only[kidsT]at c;split at c
 ·simp at c
 rename_i I;have u:n.op≠1:=λu=>by
  have:=(h.var_lt u).2.2;subst this;split at c<;>simp at c
 have K:∀q∈varsK ks n 0 0 0,q.1-q.2<N:=λq d=>h.bl q (by simpa[varsT,u]using d);split at c
 ·rename_i b
  have p:∀(i:Nat) f,ks[i]?=some f ->Ok .fn f:=λi f p=>⟨by
   have:=jF ks 0 i f m p
   rwa [show nx Md.tm n (0+i)= .fn by simp[nx,I,b]]at this,dK' ks i f E p⟩
  have w:∀k∈ks,k.ks.length=2:=λf O=>by
   obtain⟨i,z⟩:=JH O;obtain⟨g,A,B,rfl,_⟩:=(p i f z).fn
   rfl
  obtain⟨f,j,a⟩:=xh' ks w k y c;obtain⟨g,A,B,rfl,e,P,r,s⟩:=(p _ f j).fn;have t:=(lJ.1 (Ef H j)).2;have C:∀q∈varsT (.mk g [A,B]) 0 n.b,q.1-q.2<N:=λq d=>K q (zi ks 0 0 (k/2) _ j q (by
   rw[show (0:Int)+arC n 0 (0+((k/2:Nat):Int))=0 by rw[mU o];simp[bh,b]];exact d))
  have D:g.op≠1:=Uo
  simp only[varsT,KY D,varsK,JD,JW]at C;simp only[Tr.ks]at a;unfold kb;rw[KX b]
  by_cases l:k%2=1
  ·rw[l]at a
   simp only[List.getElem?_cons_succ,List.getElem?_cons_zero,QZ]at a;subst a;rw[KX l];refine⟨s,Uo,?_,(oa.1 (oa.1 t).2).1⟩;have:BlD B (0+arC g n.b (0+1)) g.b N:=λq d=>C q (.inr d);rw[s.bld]at this;refine this.mono ?_;simp[arC,e]
  ·rw[show k%2=0 by omega]at a
   simp only[List.getElem?_cons_zero,QZ]at a;subst a;rw[KY l];refine⟨r,Uo,?_,(oa.1 t).1⟩;have:BlD A (0+arC g n.b 0) g.b N:=λq d=>C q (.inl d);rw[r.bld]at this;refine this.mono ?_;simp[arC,e]
 ·rename_i b
  have M:Ok .tm y:=⟨by
   have:=jF ks 0 k y m c
   rwa [show nx Md.tm n (0+k)= .tm by simp[nx,I,b]]at this,dK' ks k y E c⟩
  refine⟨M,Uo,?_,Ef H c⟩;have:BlD y (0+arC n 0 (0+(k:Int))) n.b N:=λq d=>K q (zi ks 0 0 k y c q d);rw[M.bld]at this;refine this.mono ?_;unfold kb;rw[KY b,mU o];simp
theorem Ft.hd_args:∀(L:Nat) (x:Tr),(row x).length<=L ->Ft Q N x ->Ft Q N (headT x)/\∀y∈argsT x,Ft Q N y
 |0,x,hl,_=>by
  have:=aZ x;omega
 |L+1,.mk n o,hl,h=>by
  by_cases b:n.op=6
  ·obtain⟨f,a,rfl,p,q⟩:=pc h.ok b
   have d:kidsT (.mk n [f,a])=[f,a]:=by simp[kidsT,b]
   have e:=h.kid (k:=0) (y:=f) (by rw[d];rfl);have g:=h.kid (k:=1) (y:=a) (by rw[d];rfl);have i:kb n 0=0:=by simp[kb,bh,b]
   have j:kb n 1=0:=by simp[kb,bh,b]
   rw[i]at e;rw[j]at g;simp only[Int.add_zero]at e g;have r:=ip' (.mk n [f,a]) f (by simp[d]);obtain⟨l,m⟩:=Ft.hd_args L f Uo e;rw[mV b,mW b];exact⟨l,λy c=>(List.mem_append.1 c).elim (m y) λc=>by
    obtain rfl:y=a:=by simpa using c
    exact g⟩
  ·rw[n9 b,pd b]
   exact⟨h,λy c=>by cases c⟩
theorem Ft.head(h:Ft Q N x):Ft Q N (headT x):=(Ft.hd_args _ x (KJ _) h).1
theorem Ft.args(h:Ft Q N x):∀y∈argsT x,Ft Q N y:=(Ft.hd_args _ x (KJ _) h).2
theorem qC':∀(ys:List Tr) (x:Tr),Ok .tm x ->Bl x N ->(∀y∈ys,Ok .tm y/\Bl y N) ->Bl (an' x ys) N
 |[],x,_,c,_=>c
 |y::r,x,e,c,d=>by
  rw[an'];have b:=d y Ud;refine qC' r _ (eQ' [y] x e (by simpa using b.1)) ?_ (λz f=>d z (by simp[f]));intro q a;simp only[varsT,appN,varsK,JD]at a;rw[KY UO]at a;simp only[JW]at a;rcases a with a|a
  ·exact c q a
  ·exact b.2 q a
theorem Kn{ys:List Tr}{x:Tr}(b:Qk Q)(c:Al Q x)(d:∀y∈ys,Al Q y):Al Q (an' x ys):=by
 intro m a;rw[bK']at a;rcases List.mem_append.1 a with a|a
 ·obtain rfl:=(List.mem_replicate.1 a).2
  exact b.app _ (by simp[appN])
 ·rcases List.mem_append.1 a with a|a
  ·exact c m a
  ·have:∀(l:List Tr),(∀y∈l,Al Q y) ->m∈rows l ->Q m:=by
    intro l
    induction l with
    |nil=>intro _ h;simp[rows]at h
    |cons y l e=>
     intro h a;simp only[rows,JW]at a;exact a.elim (h y Ud m) (e λz f=>h z (by simp[f]))
   exact this ys d a
theorem Ft.apply(c:Qk Q){ys:List Tr}(a:Ft Q N x)(b:∀y∈ys,Ft Q N y)(hl:(row (an' x ys)).length<=4096):Ft Q N (an' x ys):=
 ⟨eQ' ys x a.ok λy h=>(b y h).ok,hl,qC' ys x a.ok a.bl λy h=>⟨(b y h).ok,(b y h).bl⟩,Kn c a.al λy h=>(b y h).al⟩
theorem Eg{op:Int}(f:op=4 \/op=5):∀(ys:List Tr) (x:Tr) (N:Int),Ok .tm x ->Bl x (N+ys.length) ->(∀(i:Nat) y,ys[i]?=some y ->Ok .tm y/\Bl y (N+i)) ->Bl (eX op ys x) N
 |[],x,N,_,g,_=>g.mono Ud
 |d::r,x,N,e,g,j=>by
  obtain⟨h1,k⟩:=j 0 d rfl;have t:=Eg f r x (N+1) e (g.mono Uk) (λi y l=>by
   obtain⟨a,b⟩:=j (i+1) y (by simpa using l);exact⟨a,b.mono Uo⟩)
  have m:Ok .tm (eX op r x):=zd f r x e λz u=>by
   obtain⟨i,l⟩:=JH u;exact(j (i+1) z (by simpa using l)).1
  rw[eX];intro q c;have o:op≠1:=Uo
  have p:op≠13:=Uo
  simp only[varsT,varsK,JD,KY o,JW,arC,KY p]at c;rcases c with c|c
  ·have:=k.mono (show N+((0:Nat):Int)<=N+0 by omega)
   have s:bh ⟨op,0,0⟩ 0=0:=by rcases f with rfl|rfl<;>decide
   rw[s]at c;exact(this.mono Uo) q c
  ·have s:bh ⟨op,0,0⟩ (0+1)=1:=by rcases f with rfl|rfl<;>decide
   rw[s]at c;exact(m.bld (d:=0+1) (nb:=0) (n:=N)).2 (t.mono Uo) q c
theorem Eh{op:Int}(b:Qk Q)(e:op=4 \/op=5):∀(ys:List Tr) (x:Tr),Al Q x ->(∀y∈ys,Al Q y) ->Al Q (eX op ys x)
 |[],x,a,_=>a
 |d::r,x,a,c=>by
  rw[eX,lJ,oa,oa];refine⟨b.app _ Us,c d Ud,Eh b e r x a (λz f=>c z (by simp[f])),λm hm=>by simp[rows]at hm⟩
theorem Ft.bind(e:Qk Q){op:Int}(d:op=4 \/op=5){ys:List Tr}(b:Ft Q (N+ys.length) x)(c:∀(i:Nat) y,ys[i]?=some y ->Ft Q (N+i) y)(hl:(row (eX op ys x)).length<=4096):Ft Q N (eX op ys x):=
 ⟨zd d ys x b.ok λy h=>by
   obtain⟨i,a⟩:=JH h;exact(c i y a).ok,hl,Eg d ys x N b.ok b.bl λi y a=>⟨(c i y a).ok,(c i y a).bl⟩,Eh e d ys x b.al λy h=>by
   obtain⟨i,a⟩:=JH h;exact(c i y a).al⟩
theorem Ft.one{n:Nd}(d:aG n=true)(h3:n.op≠3)(b:n.op≠13)(h2:n.op≠2)(e:bv n=0)(a:Q n)(f:n.op=1 ->n.a<N):Ft Q N (.mk n []):=
 ⟨⟨⟨by simp[cnt,d,h3,b,h2,e],trivial⟩,by simp[gQ',fc',h2]⟩,by simp[row,rows],λq a=>by
   simp only[varsT]at a;split at a
   ·rename_i g
    simp only[JJ,JZ,or_false]at a;subst a;have:=f g;simp only;omega
   ·simp[varsK]at a,λm c=>by
   simp only[row,rows,JJ,JZ,or_false]at c;subst c;exact a⟩
def varX(a:Int):Tr:=.mk ⟨1,a,0⟩ []
theorem Ft.varX(b:Qk Q){a:Int}(c:0<=a)(ha:a<N)(h1:a<=1048576):Ft Q N (varX a):=
 Ft.one (by simp[aG,aX,c,h1]) Ud Ud Ud (by simp[bv]) (b.var _ rfl) λ_=>ha
end
end Go.Q
namespace Lv
structure Atom where
 var:Int
 add:Int
deriving Inhabited,DecidableEq
structure be where
 low:Int
 add:Int
 high:Int
deriving Inhabited,DecidableEq
abbrev G:=Int ->Int ->Option Int
def putG(g:G)(x y v:Int):G:=λa b=>if a=x/\b=y then some v else g a b
def cg(o:Option Int)(v:Int):Int:=match o with
 |none=>v
 |some old=>if old<v then v else old
def dF(g:G)(x y v:Int):G:=putG g x y (cg (g x y) v)
def bQ{α:Type}(f:Nat ->α ->α):Nat ->α ->α
 |0,a=>a
 |k+1,a=>f k (bQ f k a)
def lK(n:Nat):G:=bQ (λv g=>putG (putG g v v 0) 0 v 0) n (λ_ _=>none)
def dO(vars:Int)(o:be):Bool:=decide (o.low<0 \/vars<o.low \/o.high<0 \/vars<o.high \/o.add< -1000 \/1000<o.add)
def jj(vars:Int):List be ->G ->Option G
 |[],g=>some g
 |o::r,g=>if dO vars o then none else jj vars r (dF g o.low o.high o.add)
def step(m low high:Nat)(g:G):G:=match g low m,g m high with
 |some a,some b=>dF g low high (a+b)
 |_,_=>g
def kO(n m low:Nat)(g:G):G:=bQ (step m low) n g
def pass(n m:Nat)(g:G):G:=bQ (kO n m) n g
def qo(g:G)(v:Nat):Bool:=decide (0<(g v v).getD 0)
def jG(n:Nat)(g:G):Bool:=(List.range n).any (qo g)
def j5(n:Nat):Nat ->Nat ->G ->Option G
 |0,_,g=>some g
 |f+1,m,g=>if jG n (pass n m g)then none else j5 n f (m+1) (pass n m g)
def fx(vars:Int)(os:List be):Except Int G:=
 if vars<0 \/16<vars then .error 1
 else if 64<os.length then .error 5
 else match jj vars os (lK (vars.toNat+1))with
  |none=>.error 1
  |some g=>match j5 (vars.toNat+1) (vars.toNat+1) 0 g with
   |none=>.error 7
   |some g'=>.ok g'
def non:Int:=-1000000000
def dd(v:Nat)(s:List Int×Bool):List Int×Bool:=
 if s.1.getD 0 0≠non/\s.1.getD v 0<s.1.getD 0 0 then (s.1.set v (s.1.getD 0 0),true)else s
def ew(s:List Int×Bool)(o:be):List Int×Bool:=
 if s.1.getD o.low.toNat 0≠non/\s.1.getD o.high.toNat 0<s.1.getD o.low.toNat 0+o.add then (s.1.set o.high.toNat (s.1.getD o.low.toNat 0+o.add),true)else s
def cf(n:Nat)(os:List be)(d:List Int):List Int×Bool:=os.foldl ew (bQ dd n (d,false))
def mY(n:Nat)(os:List be):Nat ->List Int ->Option (List Int)
 |0,_=>none
 |r+1,d=>if (cf n os d).2 then mY n os r (cf n os d).1 else some (cf n os d).1
def kP(n:Nat)(os:List be)(low:Nat):Option (List Int):=mY n os (n+1) ((List.replicate n non).set low 0)
def iR(vars:Int)(os:List be):Int:=
 if vars<0 \/16<vars then 1
 else if 64<os.length then 5
 else if os.any (dO vars)then 1
 else if (List.range (vars.toNat+1)).all (λv=>(kP (vars.toNat+1) os v).isSome)then 0 else 7
def Rg(n:Nat)(x:Int):Prop:=0<=x/\x<n
inductive Edge (n:Nat) (os:List be):Int ->Int ->Int ->Prop
 |zero (y:Int) (h:Rg n y):Edge n os 0 y 0
 |self (y:Int) (h:Rg n y):Edge n os y y 0
 |ord (o:be) (h:o∈os) (h1:Rg n o.low) (h2:Rg n o.high):Edge n os o.low o.high o.add
inductive Walk (n:Nat) (os:List be):Int ->Int ->Int ->Prop
 |nil (x:Int) (h:Rg n x):Walk n os x x 0
 |snoc {x y z p q:Int} (h:Walk n os x y p) (e:Edge n os y z q):Walk n os x z (p+q)
theorem Walk.trans{n:Nat}{os:List be}{x y z p q:Int}(h:Walk n os x y p)(k:Walk n os y z q):Walk n os x z (p+q):=by
 induction k with
 |nil b=>simpa using h
 |snoc k e a=>rw[<- Int.add_assoc];exact .snoc a e
theorem Walk.one{n:Nat}{os:List be}{x y p:Int}(e:Edge n os x y p)(a:Rg n x):Walk n os x y p:=by
 have:=Walk.snoc (Walk.nil x a) e
 simpa using this
def Ok(n:Nat)(os:List be)(g:G):Prop:=∀x y v,g x y=some v ->Rg n x/\Rg n y/\Walk n os x y v
def Le(g g':G):Prop:=∀x y v,g x y=some v ->∃v',g' x y=some v'/\v<=v'
theorem Le.refl(g:G):Le g g:=λ_ _ v h=>⟨v,h,Int.le_refl _⟩
theorem Le.trans{a b c:G}(h:Le a b)(k:Le b c):Le a c:=λx y v e=>by
 obtain⟨f,g,j⟩:=h x y v e;obtain⟨d,i,l⟩:=k x y f g;exact⟨d,i,Uo⟩
theorem more_cases(o:Option Int)(v:Int):(cg o v=v/\∀u,o=some u ->u<=v) \/(o=some (cg o v)/\v<=cg o v):=by
 unfold cg;split
 ·exact .inl ⟨rfl,λu h=>by cases h⟩
 ·rename_i a
  split
  ·refine .inl ⟨rfl,λu h=>?_⟩
   have:a=u:=by simpa using h
   omega
  ·exact .inr ⟨rfl,Uo⟩
theorem Ei(g:G)(x y v:Int):∃u,dF g x y v x y=some u/\v<=u:=by
 refine⟨cg (g x y) v,by simp[dF,putG],?_⟩;rcases more_cases (g x y) v with ⟨h,_⟩|⟨_,h⟩<;>omega
theorem sq(g:G)(x y v a b:Int)(h:¬ (a=x/\b=y)):dF g x y v a b=g a b:=by simp[dF,putG,h]
theorem raise_cases(g:G)(x y v a b u:Int)(h:dF g x y v a b=some u):g a b=some u \/(a=x/\b=y/\u=v):=by
 by_cases e:a=x/\b=y
 ·obtain⟨rfl,rfl⟩:=e
  simp only[dF,putG,and_self,if_true,QZ]at h;rcases more_cases (g a b) v with ⟨c,_⟩|⟨c,_⟩
  ·exact .inr ⟨rfl,rfl,Uo⟩
  ·exact .inl (by rw[c,h])
 ·rw[sq _ _ _ _ _ _ e]at h;exact .inl h
theorem Ej(g:G)(x y v:Int):Le g (dF g x y v):=by
 intro a b u c
 by_cases e:a=x/\b=y
 ·obtain⟨rfl,rfl⟩:=e
  refine⟨cg (g a b) v,by simp[dF,putG],?_⟩;rcases more_cases (g a b) v with ⟨d,f⟩|⟨d,_⟩
  ·have:=f u c;omega
  ·rw[c]at d ⊢;have:u=cg (some u) v:=by simpa using d
   omega
 ·exact⟨u,by rw[sq _ _ _ _ _ _ e];exact c,Int.le_refl _⟩
theorem Ek{n:Nat}{os:List be}{g:G}(c:Ok n os g){x y v:Int}(d:Rg n x)(e:Rg n y)(f:Walk n os x y v):Ok n os (dF g x y v):=by
 intro a b u i;rcases raise_cases g x y v a b u i with h|⟨rfl,rfl,rfl⟩
 ·exact c a b u h
 ·exact⟨d,e,f⟩
theorem jH{α:Type}{f:Nat ->α ->α}(p:Nat ->α ->Prop){a:α}(b:p 0 a):∀k,(∀i,i<k ->∀x,p i x ->p (i+1) (f i x)) ->p k (bQ f k a)
 |0,_=>b
 |k+1,h=>h k (Nat.lt_succ_self k) _ (jH p b k λi hi=>h i (Nat.lt_succ_of_lt hi))
theorem uO{n k:Nat}(h:k<n):Rg n (k:Int):=⟨Uo,Uo⟩
theorem qp(n:Nat):∀k,k<=n ->∀x y v,bQ (λv g=>putG (putG g v v 0) 0 v 0) k (λ_ _=>none) x y=some v↔(v=0/\((x=y/\Rg k x) \/(x=0/\Rg k y)))
 |0,_,x,y,v=>by simp[bQ,Rg]<;>omega
 |k+1,b,x,y,v=>by
  have a:=qp n k Uo x y v;simp only[bQ,putG];unfold Rg at *
  split
  ·rename_i e;simp only[QZ];omega
  ·split
   ·rename_i e;simp only[QZ];omega
   ·rename_i c d;rw[a];omega
theorem El(n:Nat)(os:List be):Ok n os (lK n):=by
 intro x y v h;obtain⟨rfl,b|b⟩:=(qp n n (KJ _) x y v).1 h
 ·obtain⟨rfl,a⟩:=b;exact⟨a,a,.one (.self _ a) a⟩
 ·obtain⟨rfl,a⟩:=b
  have c:Rg n 0:=by unfold Rg at *;omega
  exact⟨c,a,.one (.zero _ a) c⟩
theorem step_cases(m low high:Nat)(g:G):(∃a b,g low m=some a/\g m high=some b/\step m low high g=dF g low high (a+b)) \/step m low high g=g:=by
 unfold step;split
 ·rename_i a b c d;exact .inl ⟨a,b,c,d,rfl⟩
 ·exact .inr rfl
theorem Em{m low high:Nat}{g:G}{a b:Int}(ha:g low m=some a)(hb:g m high=some b):step m low high g=dF g low high (a+b):=by
 unfold step;rw[ha,hb]
theorem Ko{n:Nat}{os:List be}{g:G}(c:Ok n os g)(m low high:Nat):Ok n os (step m low high g):=by
 unfold step;split
 ·rename_i a b d e
  obtain⟨f,l,i⟩:=c _ _ _ d;obtain⟨o,j,k⟩:=c _ _ _ e;exact Ek c f j (i.trans k)
 ·exact c
theorem sr(m low high:Nat)(g:G):Le g (step m low high g):=by
 unfold step;split
 ·exact Ej _ _ _ _
 ·exact Le.refl _
theorem zj{n:Nat}{os:List be}{g:G}(a:Ok n os g)(m:Nat):Ok n os (pass n m g):=
 jH (λ_ g=>Ok n os g) a n λi _ _ b=>jH (λ_ g=>Ok n os g) b n λj _ _ c=>Ko c m i j
theorem uP(n m:Nat)(g:G):Le g (pass n m g):=
 jH (λ_ a=>Le g a) (Le.refl g) n λi _ _ b=>jH (λ_ a=>Le g a) b n λj _ y c=>c.trans (sr m i j y)
theorem Kq{n m:Nat}{g:G}(w:g m m=some 0):
  ∀x y v,pass n m g x y=some v ->g x y=some v \/∃a b,g x m=some a/\g m y=some b/\v=a+b:=by
 have t:∀(d:G),(∀i,d i m=g i m) ->(∀i,d m i=g m i) ->(∀x y v,d x y=some v ->g x y=some v \/∃a b,g x m=some a/\g m y=some b/\v=a+b) ->∀k c:Nat,
   (∀i,step m k c d i m=g i m)/\(∀i,step m k c d m i=g m i)/\∀x y v,step m k c d x y=some v ->g x y=some v \/∃a b,g x m=some a/\g m y=some b/\v=a+b:=by
  intro d p q s k c;rcases step_cases m k c d with ⟨a,b,z,u,e⟩|e
  ·rw[e]
   have l:=z;have o:=u;rw[p]at l;rw[q]at o;refine⟨λi=>?_,λi=>?_,λx y v A=>?_⟩
   ·by_cases e:i=k/\(m:Int)=c
    ·obtain⟨rfl,B⟩:=e
     rw[<- B]at o ⊢;rw[w]at o;have:b=0:=by simpa using o.symm
     subst this;have r:d k m=some a:=z;simp only[dF,putG,and_self,if_true,r,cg,Int.add_zero,Int.lt_irrefl,if_false];rw[<- p];exact r.symm
    ·rw[sq _ _ _ _ _ _ e];exact p i
   ·by_cases e:(m:Int)=k/\i=c
    ·obtain⟨C,rfl⟩:=e
     rw[<- C]at l ⊢;rw[w]at l;have:a=0:=by simpa using l.symm
     subst this;simp only[dF,putG,and_self,if_true,u,cg,Int.zero_add,Int.lt_irrefl,if_false];rw[<- q];exact u.symm
    ·rw[sq _ _ _ _ _ _ e];exact q i
   ·rcases raise_cases _ _ _ _ _ _ _ A with h|⟨rfl,rfl,rfl⟩
    ·exact s _ _ _ h
    ·exact .inr ⟨a,b,l,o,rfl⟩
  ·rw[e];exact⟨p,q,s⟩
 have:=jH (f:=kO n m) (λ_ d=>(∀i,d i m=g i m)/\(∀i,d m i=g m i)/\∀x y v,d x y=some v ->g x y=some v \/∃a b,g x m=some a/\g m y=some b/\v=a+b)
  (a:=g) ⟨λ_=>rfl,λ_=>rfl,λ_ _ _ h=>.inl h⟩ n λi _ _ ⟨p,q,s⟩=>
   jH (f:=step m i) (λ_ d=>(∀i,d i m=g i m)/\(∀i,d m i=g m i)/\∀x y v,d x y=some v ->g x y=some v \/∃a b,g x m=some a/\g m y=some b/\v=a+b)
    ⟨p,q,s⟩ n λj _ y ⟨D,E,F⟩=>t y D E F i j
 exact this.2.2
theorem uQ{n m:Nat}{g:G}{x y a b:Int}(f:Rg n x)(C:Rg n y)(ha:g x m=some a)(hb:g m y=some b):∃v,pass n m g x y=some v/\a+b<=v:=by
 obtain⟨i,rfl⟩:=Int.eq_ofNat_of_zero_le f.1;obtain⟨j,rfl⟩:=Int.eq_ofNat_of_zero_le C.1;have I:i<n:=by have:=f.2;omega
 have K:j<n:=by have:=C.2;omega
 have l:∀(d:G),Le g d ->∀k,j<k ->∃v,bQ (step m i) k d i j=some v/\a+b<=v:=by
  intro d s k
  induction k with
  |zero=>omega
  |succ k t=>
   intro M
   by_cases e:j=k
   ·subst e
    have c:Le g (bQ (step m i) j d):=jH (λ_ x=>Le g x) s j λq _ x f=>f.trans (sr m i q x);obtain⟨D,o,E⟩:=c _ _ _ ha;obtain⟨F,O,R⟩:=c _ _ _ hb;simp only[bQ];have:step m i j (bQ (step m i) j d)=dF (bQ (step m i) j d) i j (D+F):=by
     exact Em o O
    rw[this];obtain⟨u,P,H⟩:=Ei (bQ (step m i) j d) i j (D+F);exact⟨u,P,Uo⟩
   ·obtain⟨v,w,c⟩:=t Uo
    obtain⟨A,o,E⟩:=sr m i k _ _ _ _ w;exact⟨A,o,Uo⟩
 have p:∀k,i<k ->∃v,bQ (kO n m) k g i j=some v/\a+b<=v:=by
  intro k
  induction k with
  |zero=>omega
  |succ k t=>
   intro M
   by_cases e:i=k
   ·subst e
    have c:Le g (bQ (kO n m) i g):=jH (λ_ x=>Le g x) (Le.refl g) i λq _ _ f=>jH (λ_ z=>Le g z) f n λr _ z B=>B.trans (sr m q r z);exact l _ c n K
   ·obtain⟨v,w,c⟩:=t Uo
    have:Le (bQ (kO n m) k g) (kO n m k (bQ (kO n m) k g)):=jH (λ_ z=>Le (bQ (kO n m) k g) z) (Le.refl _) n λr _ z B=>B.trans (sr m k r z);obtain⟨A,o,E⟩:=this _ _ _ w;exact⟨A,o,Uo⟩
 exact p n I
def Tri(m:Nat)(g:G):Prop:=∀(k:Nat) x y a b,k<m ->g x k=some a ->g k y=some b ->∃v,g x y=some v/\a+b<=v
theorem Eo{n:Nat}{g:G}(h:jG n g=false){v:Nat}(a:v<n){u:Int}(b:g v v=some u):u<=0:=by
 unfold jG at h;have:=List.any_eq_false.1 h v (List.mem_range.2 a);unfold qo at this;simp[b]at this;omega
theorem Kr{n:Nat}{g:G}(h:jG n g=true):∃v:Nat,v<n/\∃u,g v v=some u/\0<u:=by
 unfold jG at h;obtain⟨v,b,h⟩:=List.any_eq_true.1 h;refine⟨v,List.mem_range.1 b,?_⟩;unfold qo at h;cases a:g v v with
 |none=>simp[a]at h
 |some u=>simp[a]at h;exact⟨u,rfl,h⟩
def Diag(n:Nat)(g:G):Prop:=∀v:Nat,v<n ->∃u,g v v=some u/\0<=u
theorem Diag.le{n:Nat}{g a:G}(h:Diag n g)(k:Le g a):Diag n a:=λv b=>by
 obtain⟨u,c,f⟩:=h v b;obtain⟨d,e,i⟩:=k _ _ _ c;exact⟨d,e,Uo⟩
theorem Ks{n m:Nat}{os:List be}(hm:m<n){g:G}(S:Ok n os g)(T:Diag n g)(B:Tri m g)(hc:jG n (pass n m g)=false):Tri (m+1) (pass n m g):=by
 have C:g m m=some 0:=by
  obtain⟨u,d,j⟩:=T m hm;obtain⟨U,f,D⟩:=uP n m g _ _ _ d;have:=Eo hc hm f;rw[d];congr 1;omega
 have r:=Kq (n:=n) C;have K:=uP n m g;intro k x y a b V M O;have s:=zj S m;have E:=(s _ _ _ M).1;have F:=(s _ _ _ O).2.1;have t:=r _ _ _ M;have w:=r _ _ _ O
 by_cases e:k=m
 ·subst e
  have d:g x k=some a:=by
   rcases t with h|⟨p,q,H,I,rfl⟩
   ·exact h
   ·rw[C]at I;have:q=0:=by simpa using I.symm
    subst this;simpa using H
  have j:g k y=some b:=by
   rcases w with h|⟨p,q,H,I,rfl⟩
   ·exact h
   ·rw[C]at H;have:p=0:=by simpa using H.symm
    subst this;simpa using I
  exact uQ E F d j
 ·have i:k<m:=Uo
  rcases t with d|⟨W,P,d,z,rfl⟩<;>rcases w with j|⟨R,X,j,A,rfl⟩
  ·obtain⟨v,l,c⟩:=B k x y a b i d j
   obtain⟨o,f,D⟩:=K _ _ _ l;exact⟨o,f,Uo⟩
  ·obtain⟨v,l,c⟩:=B k x m a R i d j
   obtain⟨o,f,D⟩:=uQ (n:=n) E F l A;exact⟨o,f,Uo⟩
  ·obtain⟨v,l,c⟩:=B k m y P b i z j
   obtain⟨o,f,D⟩:=uQ (n:=n) E F d l;exact⟨o,f,Uo⟩
  ·obtain⟨v,l,c⟩:=B k m m P R i z j
   rw[C]at l;have:v=0:=by simpa using l.symm
   obtain⟨o,f,D⟩:=uQ (n:=n) E F d A;exact⟨o,f,Uo⟩
theorem zk{n:Nat}{os:List be}:∀(f m:Nat) (g:G),m+f=n ->Ok n os g ->Diag n g ->Tri m g ->(1<=m ->jG n g=false) ->
  match j5 n f m g with
  |none=>∃x w,Walk n os x x w/\0<w
  |some b=>Ok n os b/\Le g b/\Tri n b/\(1<=n ->∀v:Nat,v<n ->b v v=some 0)
 |0,m,g,i,c,d,j,hc=>by
  simp only[j5];have:m=n:=Uo
  subst this;refine⟨c,Le.refl _,j,λk v l=>?_⟩;obtain⟨u,e,o⟩:=d v l;have:=Eo (hc k) l e;rw[e];congr 1;omega
 |f+1,m,g,i,c,d,j,hc=>by
  simp only[j5];cases a:jG n (pass n m g)with
  |true=>
   simp only[if_true];obtain⟨v,l,u,k,e⟩:=Kr a;exact⟨v,u,(zj c m _ _ _ k).2.2,e⟩
  |false=>
   simp only[Bool.false_eq_true,if_false];have:=zk (os:=os) f (m+1) (pass n m g) Uo (zj c m) (d.le (uP n m g)) (Ks Uo c d j a) (λ_=>a);cases h:j5 n f (m+1) (pass n m g)with
   |none=>rw[h]at this;exact this
   |some b=>rw[h]at this;exact⟨this.1,(uP n m g).trans this.2.1,this.2.2⟩
theorem zl{vars:Int}{n:Nat}(k:(n:Int)=vars+1){os:List be}:∀(r:List be) (g:G),(∀o∈r,o∈os) ->Ok n os g ->∀b,jj vars r g=some b ->Ok n os b/\Le g b/\(∀o∈r,∃v,b o.low o.high=some v/\o.add<=v)/\∀o∈r,dO vars o=false
 |[],g,_,c,b,h=>by
  simp only[jj,QZ]at h;subst h;exact⟨c,Le.refl _,⟨λo d=>(by cases d),λo d=>(by cases d)⟩⟩
 |o::r,g,hr,c,b,h=>by
  simp only[jj]at h;cases hb:dO vars o with
  |true=>rw[hb]at h;simp at h
  |false=>
   rw[hb]at h;simp only[Bool.false_eq_true,if_false]at h;have l:¬ (o.low<0 \/vars<o.low \/o.high<0 \/vars<o.high \/o.add< -1000 \/1000<o.add):=by simpa[dO]using hb
   have e:Rg n o.low:=by unfold Rg;omega
   have i:Rg n o.high:=by unfold Rg;omega
   have f:=Ek c e i (Walk.one (.ord o (hr o Ud) e i) e);obtain⟨m,j,p,s⟩:=zl k r _ (λq a=>hr q (by simp[a])) f b h;refine⟨m,(Ej _ _ _ _).trans j,λq a=>?_,λq a=>?_⟩
   ·rcases List.mem_cons.1 a with rfl|a
    ·obtain⟨u,t,z⟩:=Ei g q.low q.high q.add
     obtain⟨w,y,A⟩:=j _ _ _ t;exact⟨w,y,Uo⟩
    ·exact p q a
   ·rcases List.mem_cons.1 a with rfl|a
    ·exact hb
    ·exact s q a
theorem zm{vars:Int}:∀(r:List be) (g:G),(jj vars r g=none↔r.any (dO vars)=true)
 |[],g=>by simp[jj]
 |o::r,g=>by
  simp only[jj,List.any_cons];cases hb:dO vars o with
  |true=>simp
  |false=>simpa using zm r _
structure uR(n:Nat)(os:List be)(g:G):Prop where
 walk:∀x y v,g x y=some v ->Rg n x/\Rg n y/\Walk n os x y v
 most:∀x y p,Walk n os x y p ->∃v,g x y=some v/\p<=v
 zero:∀x,Rg n x ->g x x=some 0
theorem Er{vars:Int}{os:List be}{g:G}(h:fx vars os= .ok g):uR (vars.toNat+1) os g/\0<=vars/\vars<=16/\os.length<=64/\os.any (dO vars)=false:=by
 unfold fx at h;split at h
 ·cases h
 ·rename_i f
  split at h
  ·cases h
  ·rename_i W
   split at h
   ·cases h
   ·rename_i l m
    split at h
    ·cases h
    ·rename_i n q
     have:n=g:=by simpa using h
     subst this;have F:((vars.toNat+1:Nat):Int)=vars+1:=Uo
     obtain⟨H,z,I,K⟩:=zl F os (lK (vars.toNat+1)) (λ_ h=>h) (El _ os) l m;have M:Diag (vars.toNat+1) l:=Diag.le (λv f=>⟨0,(qp _ _ (KJ _) _ _ _).2 ⟨rfl,.inl ⟨rfl,uO f⟩⟩,Int.le_refl _⟩) z;have:=zk (os:=os) (vars.toNat+1) 0 l Uo H M (λk _ _ _ _ X=>Uo) (λh=>Uo);rw[q]at this;obtain⟨A,B,O,P⟩:=this;have r:∀x,Rg (vars.toNat+1) x ->n x x=some 0:=λx j=>by
      obtain⟨i,rfl⟩:=Int.eq_ofNat_of_zero_le j.1;exact P Uo i (by have:=j.2;omega)
     have d:∀x y p,Edge (vars.toNat+1) os x y p ->∃v,n x y=some v/\p<=v:=by
      intro x y p e;cases e with
      |zero _ s=>
       obtain⟨u,t,C⟩:=(z.trans B) _ _ _ ((qp _ _ (KJ _) 0 y 0).2 ⟨rfl,.inr ⟨rfl,s⟩⟩);exact⟨u,t,C⟩
      |self _ s=>exact⟨0,r _ s,Int.le_refl _⟩
      |ord o w _ _=>
       obtain⟨u,t,C⟩:=I o w;obtain⟨R,S,Y⟩:=B _ _ _ t;exact⟨R,S,Uo⟩
     refine⟨⟨A,λx y p D=>?_,r⟩,Uo,Uo,Uo,?_⟩
     ·induction D with
      |nil j=>exact⟨0,r _ j,Int.le_refl _⟩
      |snoc D e T=>
       obtain⟨a,E,Z⟩:=T;obtain⟨b,U,hq⟩:=d _ _ _ e;have c:=(A _ _ _ E).2.1;obtain⟨i,rfl⟩:=Int.eq_ofNat_of_zero_le c.1;obtain⟨v,f,V⟩:=O i _ _ a b (by have:=c.2;omega) E U;exact⟨v,f,Uo⟩
     ·rw[List.any_eq_false]
      exact λo w=>by simp[K o w]
theorem closedF_err{vars:Int}{os:List be}{e:Int}(h:fx vars os= .error e):
  ((vars<0 \/16<vars)/\e=1) \/(¬ (vars<0 \/16<vars)/\64<os.length/\e=5) \/(¬ (vars<0 \/16<vars)/\¬ 64<os.length/\os.any (dO vars)=true/\e=1) \/
  (¬ (vars<0 \/16<vars)/\¬ 64<os.length/\os.any (dO vars)=false/\e=7/\∃x w,Walk (vars.toNat+1) os x x w/\0<w):=by
 unfold fx at h;split at h
 ·rename_i a;exact .inl ⟨a,by simpa using h.symm⟩
 ·rename_i a
  split at h
  ·rename_i d;exact .inr (.inl ⟨a,d,by simpa using h.symm⟩)
  ·rename_i d
   split at h
   ·rename_i i;exact .inr (.inr (.inl ⟨a,d,(zm os _).1 i,by simpa using h.symm⟩))
   ·rename_i f b
    have c:os.any (dO vars)=false:=by
     cases j:os.any (dO vars)with
     |false=>rfl
     |true=>rw[(zm os _).2 j]at b;cases b
    split at h
    ·rename_i g
     have l:((vars.toNat+1:Nat):Int)=vars+1:=Uo
     obtain⟨m,n,p,q⟩:=zl l os (lK (vars.toNat+1)) (λ_ h=>h) (El _ os) f b;have o:Diag (vars.toNat+1) f:=Diag.le (λv a=>⟨0,(qp _ _ (KJ _) _ _ _).2 ⟨rfl,.inl ⟨rfl,uO a⟩⟩,Int.le_refl _⟩) n;have:=zk (os:=os) (vars.toNat+1) 0 f Uo m o (λk _ _ _ _ r=>Uo) (λh=>Uo);rw[g]at this;exact .inr (.inr (.inr ⟨a,d,c,by simpa using h.symm,this⟩))
    ·cases h
def gt(d:List Int)(v:Nat):Int:=d.getD v 0
theorem jI(d:List Int)(i:Nat)(x:Int)(v:Nat):gt (d.set i x) v=if i=v/\v<d.length then x else gt d v:=by
 unfold gt;simp only[QK,List.getElem?_set]
 by_cases h:i=v
 ·subst h
  by_cases a:i<d.length
  ·simp[a]
  ·simp[a]
 ·simp[h]
structure Inv(n:Nat)(os:List be)(low:Int)(B:Int)(d:List Int):Prop where
 len:d.length=n
 bd:∀v,v<n ->gt d v=non \/(-B<=gt d v/\gt d v<=B)
 walk:∀v,v<n ->gt d v≠non ->Walk n os low v (gt d v)
def Good(n:Nat)(os:List be):Prop:=∀o∈os,Rg n o.low/\Rg n o.high/\ -1000<=o.add/\o.add<=1000
def GeD(n:Nat)(d d':List Int):Prop:=∀v,v<n ->gt d v<=gt d' v
theorem GeD.refl(n:Nat)(d:List Int):GeD n d d:=λ_ _=>Int.le_refl _
theorem GeD.trans{n:Nat}{a b c:List Int}(h:GeD n a b)(k:GeD n b c):GeD n a c:=λv d=>Int.le_trans (h v d) (k v d)
theorem Inv.mono{n:Nat}{os:List be}{low B a:Int}{d:List Int}(h:Inv n os low B d)(e:B<=a):Inv n os low a d:=
 ⟨h.len,λv c=>by rcases h.bd v c with b|b;exact .inl b;exact .inr Uo,h.walk⟩
theorem Kt{n:Nat}{os:List be}{low B:Int}{s:List Int×Bool}(h:Inv n os low B s.1){v:Nat}(d:v<n):
  Inv n os low B (dd v s).1/\GeD n s.1 (dd v s).1/\(gt s.1 0≠non ->gt s.1 0<=gt (dd v s).1 v)/\((dd v s).2=false ->dd v s=s/\(gt s.1 0=non \/gt s.1 0<=gt s.1 v))/\((dd v s).2=true ->s.2=true \/∃u,u<n/\gt s.1 u<gt (dd v s).1 u):=by
 unfold dd;split
 ·rename_i g
  obtain⟨o,p⟩:=g;have i:gt s.1 0≠non:=o;have b:gt s.1 v<gt s.1 0:=p;have m:0<n:=Uo
  have j:=h.bd 0 m;refine⟨⟨by simp[h.len],λu f=>?_,λu f a=>?_⟩,λu f=>?_,λ_=>?_,⟨λq=>(by cases q),λ_=>.inr ⟨v,d,by simp only[jI,true_and];rw[KX (by rw[h.len];exact d)];exact b⟩⟩⟩
  ·simp only[jI];split
   ·exact j
   ·exact h.bd u f
  ·simp only[jI]at a ⊢;split
   ·rename_i e
    obtain⟨k,_⟩:=e;subst k;have r:=h.walk 0 m i;have:=Walk.snoc r (.zero (v:Int) (uO d))
    simpa[gt]using this
   ·rename_i e;rw[KY e]at a;exact h.walk u f a
  ·simp only[jI];split
   ·rename_i e;obtain⟨k,_⟩:=e;subst k;exact Int.le_of_lt b
   ·exact Int.le_refl _
  ·simp only[jI,true_and];rw[KX (by rw[h.len];exact d)];exact Int.le_refl _
 ·rename_i g
  have c:gt s.1 0=non \/gt s.1 0<=gt s.1 v:=by
   unfold gt
   by_cases e:s.1.getD 0 0=non
   ·exact .inl e
   ·exact .inr (by
     have:¬ (s.1.getD v 0<s.1.getD 0 0):=λl=>g ⟨e,l⟩;omega)
  exact⟨h,GeD.refl _ _,λa=>c.resolve_left a,λ_=>⟨rfl,c⟩,λt=>.inl t⟩
theorem Ku{n:Nat}{os:List be}{low B:Int}{s:List Int×Bool}(h:Inv n os low B s.1){o:be}(p:o∈os)(w:Good n os):
  Inv n os low (B+1000) (ew s o).1/\GeD n s.1 (ew s o).1/\(gt s.1 o.low.toNat≠non ->gt s.1 o.low.toNat+o.add<=gt (ew s o).1 o.high.toNat)/\
   ((ew s o).2=false ->ew s o=s/\(gt s.1 o.low.toNat=non \/gt s.1 o.low.toNat+o.add<=gt s.1 o.high.toNat))/\((ew s o).2=true ->s.2=true \/∃u,u<n/\gt s.1 u<gt (ew s o).1 u):=by
 obtain⟨y,z,A,C⟩:=w o p;unfold Rg at y z;have c:o.low.toNat<n:=Uo
 have b:o.high.toNat<n:=Uo
 have k:=h.bd _ c;unfold ew;split
 ·rename_i l
  obtain⟨D,E⟩:=l;have d:gt s.1 o.low.toNat≠non:=D;have f:gt s.1 o.high.toNat<gt s.1 o.low.toNat+o.add:=E;have g:=k.resolve_left d;refine⟨⟨by simp[h.len],λu j=>?_,λu j a=>?_⟩,λu j=>?_,λ_=>?_,⟨λF=>(by cases F),λ_=>.inr ⟨o.high.toNat,b,by simp only[jI,true_and];rw[KX (by rw[h.len];exact b)];exact f⟩⟩⟩
  ·simp only[jI];split
   ·right;unfold gt at g;omega
   ·rcases h.bd u j with q|q
    ·exact .inl q
    ·exact .inr Uo
  ·simp only[jI]at a ⊢;split
   ·rename_i e
    obtain⟨r,_⟩:=e;have t:=h.walk _ c d;have H:((o.low.toNat:Nat):Int)=o.low:=Uo
    have I:((u:Nat):Int)=o.high:=Uo
    rw[H]at t;have:=Walk.snoc t (.ord o p (by unfold Rg;omega) (by unfold Rg;omega));rw[I];exact this
   ·rename_i e;rw[KY e]at a;exact h.walk u j a
  ·simp only[jI];split
   ·rename_i e;obtain⟨r,_⟩:=e;subst r;exact Int.le_of_lt f
   ·exact Int.le_refl _
  ·simp only[jI,true_and];rw[KX (by rw[h.len];exact b)];exact Int.le_refl _
 ·rename_i l
  have i:gt s.1 o.low.toNat=non \/gt s.1 o.low.toNat+o.add<=gt s.1 o.high.toNat:=by
   unfold gt
   by_cases e:s.1.getD o.low.toNat 0=non
   ·exact .inl e
   ·exact .inr (by
     have:¬ (s.1.getD o.high.toNat 0<s.1.getD o.low.toNat 0+o.add):=λm=>l ⟨e,m⟩;omega)
  exact⟨h.mono Uo,GeD.refl _ _,λa=>i.resolve_left a,λ_=>⟨rfl,i⟩,λK=>.inl K⟩
theorem uS{n:Nat}{os:List be}{low B:Int}{d c:List Int}(h:Inv n os low B d)(g:B<1000000000)(a:GeD n d c){v:Nat}(f:v<n)(b:gt d v≠non):gt c v≠non:=by
 have i:=(h.bd v f).resolve_left b;have j:=a v f;intro e;unfold non at e;omega
theorem zn{n:Nat}{os:List be}{low B:Int}{d:List Int}(h:Inv n os low B d)(p:B<1000000000):∀k,k<=n ->
  Inv n os low B (bQ dd k (d,false)).1/\GeD n d (bQ dd k (d,false)).1/\(gt d 0≠non ->∀v,v<k ->gt d 0<=gt (bQ dd k (d,false)).1 v)/\
   ((bQ dd k (d,false)).2=false ->bQ dd k (d,false)=(d,false)/\∀v,v<k ->gt d 0=non \/gt d 0<=gt d v)/\((bQ dd k (d,false)).2=true ->∃u,u<n/\gt d u<gt (bQ dd k (d,false)).1 u)
 |0,_=>⟨h,GeD.refl _ _,⟨λ_ v i=>Uo,⟨λ_=>⟨rfl,λv i=>Uo⟩,λj=>(by cases j)⟩⟩⟩
 |k+1,I=>by
  obtain⟨t,c,w,y,z⟩:=zn h p k Uo;obtain⟨A,l,C,D,E⟩:=Kt t (v:=k) Uo;refine⟨A,c.trans l,λa v i=>?_,λf=>?_,λj=>?_⟩
  ·have q:0<n:=Uo
   by_cases e:v=k
   ·subst e
    have F:=uS h p c q a;have:=C F;have m:=c 0 q;simp only[bQ];omega
   ·have g:=w a v Uo
    have m:=l v Uo;simp only[bQ];omega
  ·simp only[bQ]at f ⊢
   obtain⟨e,r⟩:=D f;rw[e]at f ⊢;obtain⟨s,o⟩:=y f;rw[s]at r;refine⟨s,λv i=>?_⟩
   by_cases H:v=k
   ·subst H;exact r
   ·exact o v Uo
  ·rcases E j with g|⟨u,b,g⟩
   ·obtain⟨u,b,m⟩:=z g
    exact⟨u,b,Int.lt_of_lt_of_le m (l u b)⟩
   ·exact⟨u,b,Int.lt_of_le_of_lt (c u b) g⟩
theorem zp{n:Nat}{os:List be}{low:Int}(j:Good n os):∀(r:List be) (B:Int) (s:List Int×Bool),(∀o∈r,o∈os) ->Inv n os low B s.1 ->B+1000*r.length<999000000 ->
  Inv n os low (B+1000*r.length) (r.foldl ew s).1/\GeD n s.1 (r.foldl ew s).1/\(∀o∈r,gt s.1 o.low.toNat≠non ->gt s.1 o.low.toNat+o.add<=gt (r.foldl ew s).1 o.high.toNat)/\
   ((r.foldl ew s).2=false ->r.foldl ew s=s/\∀o∈r,gt s.1 o.low.toNat=non \/gt s.1 o.low.toNat+o.add<=gt s.1 o.high.toNat)/\((r.foldl ew s).2=true ->s.2=true \/∃u,u<n/\gt s.1 u<gt (r.foldl ew s).1 u)
 |[],B,s,_,h,_=>⟨by simpa using h,GeD.refl _ _,⟨λo k=>(by cases k),⟨λ_=>⟨rfl,λo k=>(by cases k)⟩,λl=>.inl l⟩⟩⟩
 |o::r,B,s,hr,h,A=>by
  simp only[JV]at A;obtain⟨C,i,D,E,F⟩:=Ku h (hr o Ud) j;obtain⟨w,m,H,I,K⟩:=zp j r (B+1000) (ew s o) (λq a=>hr q (by simp[a])) C Uo;simp only[List.foldl_cons,JV];have e:B+1000+1000*(r.length:Int)=B+1000*((r.length+1:Nat):Int):=Uo
  rw[e]at w;refine⟨w,i.trans m,λq a b=>?_,λp=>?_,λl=>?_⟩
  ·have t:=j q (hr q a)
   unfold Rg at t;rcases List.mem_cons.1 a with rfl|a
   ·have c:=D b
    have d:=m q.high.toNat Uo;omega
   ·have f:=uS h Uo i (v:=q.low.toNat) Uo b
    have c:=H q a f;have d:=i q.low.toNat Uo;omega
  ·obtain⟨y,c1⟩:=I p
   rw[y]at p;obtain⟨z,M⟩:=E p;refine⟨by rw[y,z],λq a=>?_⟩;rcases List.mem_cons.1 a with rfl|a
   ·exact M
   ·have:=c1 q a
    rw[z]at this;exact this
  ·rcases K l with c|⟨u,g,c⟩
   ·rcases F c with d|⟨u,g,d⟩
    ·exact .inl d
    ·exact .inr ⟨u,g,Int.lt_of_lt_of_le d (m u g)⟩
   ·exact .inr ⟨u,g,Int.lt_of_le_of_lt (i u g) c⟩
structure zq(n:Nat)(os:List be)(d:List Int):Prop where
 zero:∀v,v<n ->gt d 0=non \/gt d 0<=gt d v
 ord:∀o∈os,gt d o.low.toNat=non \/gt d o.low.toNat+o.add<=gt d o.high.toNat
theorem Es{n:Nat}{os:List be}{low B:Int}{d:List Int}(k:Good n os)(h:Inv n os low B d)(p:B+1000*os.length<999000000):
  Inv n os low (B+1000*os.length) (cf n os d).1/\GeD n d (cf n os d).1/\(gt d 0≠non ->∀v,v<n ->gt d 0<=gt (cf n os d).1 v)/\(∀o∈os,gt d o.low.toNat≠non ->gt d o.low.toNat+o.add<=gt (cf n os d).1 o.high.toNat)/\
   ((cf n os d).2=false ->(cf n os d).1=d/\zq n os d)/\((cf n os d).2=true ->∃u,u<n/\gt d u<gt (cf n os d).1 u):=by
 obtain⟨q,f,r,s,t⟩:=zn h Uo n (KJ _);obtain⟨w,i,y,z,A⟩:=zp k os B (bQ dd n (d,false)) (λ_ h=>h) q p;refine⟨w,f.trans i,λa v l=>?_,λo m a=>?_,λg=>?_,λC=>?_⟩
 ·have b:=r a v l
  have j:=i v l;unfold cf;omega
 ·have D:=k o m
  unfold Rg at D;have c:=uS h Uo f (v:=o.low.toNat) Uo a;have b:=y o m c;have j:=f o.low.toNat Uo;unfold cf;omega
 ·obtain⟨E,c1⟩:=z g
  unfold cf at g ⊢;rw[E]at g ⊢;obtain⟨F,H⟩:=s g;rw[F]at c1 ⊢;exact⟨rfl,H,c1⟩
 ·rcases A C with b|⟨u,e,b⟩
  ·obtain⟨u,e,j⟩:=t b
   exact⟨u,e,Int.lt_of_lt_of_le j (i u e)⟩
  ·exact⟨u,e,Int.lt_of_le_of_lt (f u e) b⟩
theorem uT{n:Nat}{os:List be}{low:Int}(f:Good n os)(hl:os.length<=64):∀(r:Nat) (B:Int) (d a:List Int),Inv n os low B d ->B+64000*r<900000000 ->mY n os r d=some a ->Inv n os low 900000000 a/\GeD n d a/\zq n os a
 |0,_,_,_,_,_,h=>by simp[mY]at h
 |r+1,B,d,a,hi,q,h=>by
  have g:(1000*os.length:Int)<=64000:=Uo
  obtain⟨i,j,_,_,k,_⟩:=Es f hi Uo;simp only[mY]at h;split at h
  ·obtain⟨l,m,o⟩:=uT f hl r (B+64000) _ a (i.mono Uo) Uo h
   exact⟨l,j.trans m,o⟩
  ·rename_i p
   have c:(cf n os d).2=false:=by simpa using p
   obtain⟨e,b⟩:=k c;have:(cf n os d).1=a:=by simpa using h
   rw[e]at this;subst this;exact⟨hi.mono Uo,GeD.refl _ _,b⟩
theorem su{n:Nat}(os:List be){low:Nat}(hl:low<n):Inv n os low 0 ((List.replicate n non).set low 0)/\gt ((List.replicate n non).set low 0) low=0:=by
 have c:∀v,v<n ->gt (List.replicate n non) v=non:=λv b=>by simp[gt,b]
 refine⟨⟨Ud,λv b=>?_,λv b a=>?_⟩,?_⟩
 ·rw[jI];split
  ·exact .inr Uo
  ·exact .inl (c v b)
 ·rw[jI]at a ⊢
  split
  ·rename_i e;obtain⟨rfl,_⟩:=e;exact .nil _ (uO hl)
  ·rename_i e;rw[KY e]at a;exact absurd (c v b) a
 ·rw[jI,KX (by simpa using hl)]
theorem zr{n:Nat}{os:List be}{low:Int}{d:List Int}(t:Good n os)(hi:Inv n os low 900000000 d)(l:zq n os d){x y p:Int}(m:Walk n os x y p)(i:gt d x.toNat≠non):
  gt d y.toNat≠non/\gt d x.toNat+p<=gt d y.toNat:=by
 have u:∀{a b q:Int},Edge n os a b q ->gt d a.toNat≠non ->gt d b.toNat≠non/\gt d a.toNat+q<=gt d b.toNat:=by
  intro a b q e f;cases e with
  |zero _ r=>
   unfold Rg at r;have c:gt d 0≠non:=f;have g:=(l.zero b.toNat Uo).resolve_left c;have j:=(hi.bd 0 Uo).resolve_left c;have:gt d (0:Int).toNat=gt d 0:=rfl;exact⟨λe=>by unfold non at e;omega,Uo⟩
  |self _ r=>exact⟨f,Uo⟩
  |ord o s g j=>
   unfold Rg at g j;have k:=(l.ord o s).resolve_left f;have w:=(hi.bd o.low.toNat Uo).resolve_left f;have A:=t o s;refine⟨λe=>?_,k⟩;unfold non at e;omega
 induction m with
 |nil B=>exact⟨i,Uo⟩
 |snoc m e z=>
  obtain⟨g,j⟩:=z;obtain⟨k,w⟩:=u e g;exact⟨k,Uo⟩
theorem Kv{n:Nat}{os:List be}{g:G}{low:Nat}{d:List Int}(y:n<=17)(i:Good n os)(hl:os.length<=64)(hc:uR n os g)(b:low<n)(h:kP n os low=some d):
  d.length=n/\∀v:Nat,v<n ->(g low v=none/\gt d v=non) \/(∃p,g low v=some p/\gt d v=p/\p≠non):=by
 obtain⟨j,z⟩:=su os b;obtain⟨f,k,r⟩:=uT i hl (n+1) 0 _ d j Uo h;have l:0<=gt d low:=by have:=k low b;omega
 have c:gt d low≠non:=λe=>by unfold non at e;omega
 refine⟨f.len,λv t=>?_⟩
 by_cases a:gt d v=non
 ·left
  refine⟨?_,a⟩;cases m:g low v with
  |none=>rfl
  |some p=>
   obtain⟨_,_,o⟩:=hc.walk _ _ _ m;have:=(zr i f r o (by simpa using c)).1;exact absurd a (by simpa using this)
 ·right
  have o:=f.walk v t a;obtain⟨p,s,u⟩:=hc.most _ _ _ o;obtain⟨_,_,q⟩:=hc.walk _ _ _ s;have w:=(zr i f r q (by simpa using c)).2;simp only[Int.toNat_natCast]at w;have e:gt d v=p:=Uo
  exact⟨p,s,e,e▸a⟩
theorem Kw{n:Nat}{os:List be}(s:n<=17)(k:Good n os)(hl:os.length<=64){x w:Int}(l:Walk n os x x w)(m:0<w):∃low,low<n/\kP n os low=none:=by
 have f:Rg n x:=by
  have:∀{a b p:Int},Walk n os a b p ->Rg n a:=by
   intro a b p h
   induction h with
   |nil f=>exact f
   |snoc _ _ o=>exact o
  exact this l
 refine⟨x.toNat,by unfold Rg at f;omega,?_⟩;cases h:kP n os x.toNat with
 |none=>rfl
 |some d=>
  have c:x.toNat<n:=by unfold Rg at f;omega
  obtain⟨g,t⟩:=su os c;obtain⟨q,i,r⟩:=uT k hl (n+1) 0 _ d g Uo h;have j:0<=gt d x.toNat:=by have:=i x.toNat c;omega
  have:=(zr k q r l (λe=>by unfold non at e;omega)).2;omega
theorem Et{p q:Nat ->Bool}:∀(l:List Nat),(∀x∈l,q x=true ->p x=true) ->(∃x∈l,p x=true/\q x=false) ->l.countP q<l.countP p
 |[],_,⟨x,b,_⟩=>by cases b
 |a::l,h,⟨x,b,h1,h2⟩=>by
  have c:∀(l:List Nat),(∀x∈l,q x=true ->p x=true) ->l.countP q<=l.countP p:=λl e=>List.countP_mono_left e;simp only[List.countP_cons];rcases List.mem_cons.1 b with rfl|b
  ·have:=c l (λy d=>h y (by simp[d]))
   simp[h1,h2];omega
  ·have:=Et l (λy d=>h y (by simp[d])) ⟨x,b,h1,h2⟩
   have f:=h a Ud;cases g:q a<;>cases i:p a<;>simp_all<;>omega
def fW(g:G)(low:Int)(d:List Int)(v:Nat):Bool:=match g low v with
 |none=>false
 |some p=>decide (gt d v=non \/gt d v≠p)
theorem Eu{g:G}{low:Int}{d:List Int}{v:Nat}(h:fW g low d v=true):∃p,g low v=some p/\(gt d v=non \/gt d v≠p):=by
 unfold fW at h;split at h
 ·cases h
 ·rename_i p a;exact⟨p,a,by simpa using h⟩
theorem zt{g:G}{low:Int}{d:List Int}{v:Nat}{p:Int}(a:g low v=some p)(h:fW g low d v=false):gt d v≠non/\gt d v=p:=by
 unfold fW at h;rw[a]at h;simp only[decide_eq_false_iff_not]at h;exact⟨λe=>h (.inl e),Decidable.byContradiction λe=>h (.inr e)⟩
theorem Ev{g:G}{low:Int}{d:List Int}{v:Nat}{p:Int}(a:g low v=some p)(h1:gt d v≠non)(h2:gt d v=p):fW g low d v=false:=by
 unfold fW;rw[a];simp only[decide_eq_false_iff_not];rintro(h|h)
 ·exact h1 h
 ·exact h h2
theorem Ew{n:Nat}{os:List be}{g:G}{low:Nat}(V:Good n os)(hl:os.length<=64)(hc:uR n os g)(j:low<n):∀(r:Nat) (B:Int) (d:List Int),Inv n os low B d ->B+64000*r<900000000 ->
  0<=gt d low ->(List.range n).countP (fW g low d)<r ->∃d',mY n os r d=some d'
 |0,_,_,_,_,_,h=>Uo
 |r+1,B,d,hi,hB,h0,P=>by
  have a6:(1000*os.length:Int)<=64000:=Uo
  obtain⟨R,S,k3,k4,k5,k6⟩:=Es V hi Uo;simp only[mY];cases hf:(cf n os d).2 with
  |false=>exact⟨_,rfl⟩
  |true=>
   simp only[if_true];have i:∀(d:List Int) (B:Int),Inv n os low B d ->∀v,v<n ->gt d v≠non ->∃p,g low v=some p/\gt d v<=p:=λd B hi v m f=>by
    obtain⟨p,b,i⟩:=hc.most _ _ _ (hi.walk v m f);exact⟨p,b,i⟩
   have s:gt d low≠non:=λe=>by unfold non at e;omega
   have A:∀v,v<n ->∀p,g low v=some p ->gt d v≠non ->p<=gt (cf n os d).1 v ->fW g low (cf n os d).1 v=false:=λv m p b f T=>by
    have c:=uS hi Uo S m f;obtain⟨q,F,k⟩:=i _ _ R v m c;rw[b]at F;have:p=q:=by simpa using F
    exact Ev b c Uo
   have grow:∀{v:Int} {p:Int},Walk n os low v p ->g low v=some p ->fW g low d v.toNat=true ->∃y,y<n/\fW g low d y=true/\fW g low (cf n os d).1 y=false:=by
    intro v p C;have W:∀{a v p:Int},Walk n os a v p ->a=low ->g low v=some p ->fW g low d v.toNat=true ->∃y,y<n/\fW g low d y=true/\fW g low (cf n os d).1 y=false:=by
     intro a v p C
     induction C with
     |nil hx=>
      intro X b l;subst X;simp only[Int.toNat_natCast]at l;obtain⟨q,F,Y⟩:=Eu l;rw[hc.zero _ hx]at F;have a7:(0:Int)=q:=by simpa using F
      obtain⟨q',H,k⟩:=i d B hi low j s;rw[hc.zero _ hx]at H;have a2:(0:Int)=q':=by simpa using H
      rcases Y with h|h
      ·exact absurd h s
      ·exact absurd Uo h
     | @snoc y z p q C e ih=>
      intro X b l;subst X;obtain⟨U,D,a3⟩:=hc.most _ _ _ C;obtain⟨_,Z,a0⟩:=hc.walk _ _ _ D;obtain⟨t,ht,a4⟩:=hc.most _ _ _ (Walk.snoc a0 e);rw[b]at ht;have a8:p+q=t:=by simpa using ht
      have:U=p:=Uo
      subst this;unfold Rg at Z;have I:y.toNat<n:=Uo
      have ey:((y.toNat:Nat):Int)=y:=Uo
      cases w:fW g low d y.toNat with
      |true=>exact ih rfl D w
      |false=>
       obtain⟨f,a5⟩:=zt (v:=y.toNat) (p:=U) (by rw[ey];exact D) w;obtain⟨_,a1,_⟩:=hc.walk _ _ _ b;unfold Rg at a1;have E:z.toNat<n:=Uo
       have ez:((z.toNat:Nat):Int)=z:=Uo
       have a9:gt d y.toNat+q<=gt (cf n os d).1 z.toNat:=by
        cases e with
        |zero _ _=>
         have:=k3 f z.toNat E;have e0:gt d (0:Int).toNat=gt d 0:=rfl;omega
        |self _ _=>have:=S y.toNat I;omega
        |ord o ho _ _=>exact k4 o ho f
       refine⟨z.toNat,E,l,?_⟩;have hb:=(hi.bd y.toNat I).resolve_left f;have c:gt (cf n os d).1 z.toNat≠non:=λe'=>by
        have F:-1000<=q:=by
         cases e with
         |zero _ _=>omega
         |self _ _=>omega
         |ord o ho _ _=>exact(V o ho).2.2.1
        unfold non at e';omega
       obtain⟨u,K,k⟩:=i _ _ R z.toNat E c;rw[ez,b]at K;have:U+q=u:=by simpa using K
       exact Ev (p:=U+q) (by rw[ez];exact b) c Uo
    exact W C rfl
   refine Ew V hl hc j r (B+64000) _ (R.mono Uo) Uo (by have:=S low j;omega)<|KZ (Et (p:=fW g low d) (List.range n) (λv m l=>?_) ?_) Uo
   ·have m:=List.mem_range.1 m
    cases hd:fW g low d v with
    |true=>rfl
    |false=>
     obtain⟨p,b,_⟩:=Eu l;obtain⟨T,h2⟩:=zt b hd;have:=A v m p b T (by have:=S v m;omega);rw[this]at l;cases l
   ·obtain⟨v0,M,a'⟩:=k6 hf
    have O:gt (cf n os d).1 v0≠non:=by
     rcases hi.bd v0 M with h|h
     ·intro e;omega
     ·intro e;unfold non at e;omega
    obtain⟨p,b,k⟩:=i _ _ R v0 M O;have l:fW g low d v0=true:=by
     cases hd:fW g low d v0 with
     |true=>rfl
     |false=>obtain⟨_,h2⟩:=zt b hd;omega
    obtain⟨_,_,C⟩:=hc.walk _ _ _ b;obtain⟨y,hy,T,h2⟩:=grow C b (by simpa using l);exact⟨y,List.mem_range.2 hy,T,h2⟩
theorem Ex{n:Nat}{os:List be}{g:G}{low:Nat}(e:n<=17)(c:Good n os)(hl:os.length<=64)(hc:uR n os g)(a:low<n):∃d,kP n os low=some d:=by
 obtain⟨b,f⟩:=su os a;refine Ew c hl hc a (n+1) 0 _ b Uo Uo ?_;have:=List.countP_le_length (p:=fW g low ((List.replicate n non).set low 0)) (l:=List.range n);simp only[List.length_range]at this;omega
theorem uU{vars:Int}{os:List be}(b:0<=vars)(h:os.any (dO vars)=false):Good (vars.toNat+1) os:=λo a=>by
 have:=List.any_eq_false.1 h o a;have c:¬ (o.low<0 \/vars<o.low \/o.high<0 \/vars<o.high \/o.add< -1000 \/1000<o.add):=by simpa[dO]using this
 unfold Rg;omega
theorem Ey(vars:Int)(os:List be):iR vars os=match fx vars os with
  | .error e=>e
  | .ok _=>0:=by
 cases h:fx vars os with
 |ok g=>
  obtain⟨o,p,q,r,n⟩:=Er h;have l:=uU p n;unfold iR;rw[KY Uo,KY Uo,n];simp only[Bool.false_eq_true,if_false];rw[KX];rw[List.all_eq_true];intro v s;obtain⟨d,t⟩:=Ex Uo l r o (List.mem_range.1 s);simp[t]
 |error e=>
  rcases closedF_err h with ⟨a,rfl⟩|⟨a,c,rfl⟩|⟨a,c,k,rfl⟩|⟨a,c,k,rfl,x,w,u,f⟩
  ·unfold iR;rw[KX a]
  ·unfold iR;rw[KY a,KX c]
  ·unfold iR;rw[KY a,KY c,KX k]
  ·have l:=uU Uo k
   obtain⟨m,i,b⟩:=Kw Uo l Uo u f;unfold iR;rw[KY a,KY c,k];simp only[Bool.false_eq_true,if_false];rw[KY];rw[List.all_eq_true];intro j;have:=j m (List.mem_range.2 i);rw[b]at this;cases this
end Lv
namespace Go.Q
def Ents(es:List MapEntry)(l:List (Int×Int×Int)):Prop:=es.map (λe=>(e.key,e.val))=l.map λt=>(Value.agg #[iV t.1,iV t.2.1],iV t.2.2)
def zu(x y:Int):List (Int×Int×Int) ->Nat ->Option (Nat×Int)
 |[],_=>none
 |t::r,i=>if x=t.1/\y=t.2.1 then some (i,t.2.2)else zu x y r (i+1)
def Gr(h:Array Obj)(b:Nat)(g:Lv.G):Prop:=∃es clock l,h[b]?=some (.map es clock)/\Ents es.toList l/\∀x y,g x y=(zu x y l 0).map (·.2)
end Go.Q
namespace Lv
def lL(B:Int)(g:G):Prop:=∀x y v,g x y=some v -> -B<=v/\v<=B
theorem Kx{B:Int}{g:G}(h:lL B g){x y v:Int}(h1:-B<=v)(h2:v<=B):lL B (dF g x y v):=λa b u c=>by
 rcases raise_cases g x y v a b u c with d|⟨_,_,rfl⟩
 ·exact h a b u d
 ·exact⟨h1,h2⟩
def J(B:Int)(m low high:Nat)(g:G):Prop:=∀x y v,g x y=some v ->
 (-(6*B)<=v/\v<=6*B)/\((x=m \/y=m) -> -(3*B)<=v/\v<=3*B)/\((x=m/\y=m) -> -(2*B)<=v/\v<=2*B)/\(((low:Int)<x \/((low:Int)=x/\(high:Int)<=y)) -> -B<=v/\v<=B)
theorem Ez{B:Int}{g:G}(b:0<=B)(h:lL B g)(m:Nat):J B m 0 0 g:=λx y v a=>by
 have:=h x y v a;refine⟨Uo,λ_=>Uo,λ_=>Uo,λ_=>this⟩
theorem Ky{B:Int}{m low high:Nat}{g:G}(h:J B m low high g):J B m low (high+1) (step m low high g):=by
 rcases step_cases m low high g with ⟨a,b,q,r,e⟩|e
 ·rw[e]
  intro x y v d;obtain⟨H,s,t,n⟩:=h _ _ _ q;obtain⟨I,u,w,o⟩:=h _ _ _ r;rcases raise_cases _ _ _ _ _ _ _ d with z|⟨rfl,rfl,rfl⟩
  ·obtain⟨c1,f,i,j⟩:=h x y v z
   refine⟨c1,f,i,λc=>j Uo⟩
  ·have A:=s (.inr rfl)
   have C:=u (.inl rfl);refine⟨Uo,λc=>?_,λc=>?_,λc=>Uo⟩
   ·by_cases p:(high:Int)=m
    ·have k:=n (.inr ⟨rfl,Uo⟩)
     have D:=w ⟨rfl,p⟩;omega
    ·have E:(low:Int)=m:=c.resolve_right p
     have l:=o (.inr ⟨Uo,Uo⟩);have F:=t ⟨E,rfl⟩;omega
   ·have k:=n (.inr ⟨rfl,Uo⟩)
    have l:=o (.inr ⟨Uo,Uo⟩);omega
 ·rw[e]
  intro x y v d;obtain⟨c1,f,i,j⟩:=h x y v d;exact⟨c1,f,i,λc=>j Uo⟩
theorem Kz{B:Int}{m low n:Nat}{g:G}(h:J B m low n g):J B m (low+1) 0 g:=λx y v a=>by
 obtain⟨c1,b,c,d⟩:=h x y v a;exact⟨c1,b,c,λe=>d Uo⟩
theorem EA{B:Int}{m low:Nat}{g:G}(h:J B m low 0 g)(k:Nat):J B m low k (bQ (step m low) k g):=
 jH (f:=step m low) (λk g=>J B m low k g) h k λ_ _ _ a=>Ky a
theorem EB{B:Int}{m n:Nat}{g:G}(h:J B m 0 0 g)(k:Nat):J B m k 0 (bQ (kO n m) k g):=
 jH (f:=kO n m) (λk g=>J B m k 0 g) h k λ_ _ _ a=>Kz (EA a n)
theorem KA{B:Int}{m low high:Nat}{g:G}(h:J B m low high g){a b:Int}(ha:g low m=some a)(hb:g m high=some b):-(6*B)<=a+b/\a+b<=6*B:=by
 have c:=(h _ _ _ ha).2.1 (.inr rfl);have d:=(h _ _ _ hb).2.1 (.inl rfl);omega
theorem KC{B:Int}{m low high:Nat}{g:G}(h:J B m low high g):lL (6*B) g:=λx y v a=>(h x y v a).1
theorem KE(n:Nat):lL 1000 (lK n):=λx y v a=>by
 obtain⟨rfl,_⟩:=(qp n n (KJ _) x y v).1 a;omega
def pw:Nat ->Int
 |0=>1000
 |m+1=>6*pw m
theorem Ie':∀m,m<=17 ->0<=pw m/\6*pw m<=9000000000000000000:=by
 intro m a
 match m,a with
 |0,_=>decide
 |1,_=>decide
 |2,_=>decide
 |3,_=>decide
 |4,_=>decide
 |5,_=>decide
 |6,_=>decide
 |7,_=>decide
 |8,_=>decide
 |9,_=>decide
 |10,_=>decide
 |11,_=>decide
 |12,_=>decide
 |13,_=>decide
 |14,_=>decide
 |15,_=>decide
 |16,_=>decide
 |17,_=>decide
 |m+18,h=>omega
theorem KI{B:Int}{n m:Nat}{g:G}(a:0<=B)(h:lL B g):lL (6*B) (pass n m g):=KC (EB (n:=n) (Ez a h m) n)
end Lv
namespace Go.Q
open Lv
def Rw(N:Nat)(h:Array Obj)(a:Option Addr)(k len:Nat)(c:Nat ->Nat ->Value):Prop:=
 len=0 \/∃b o,a=some ⟨b,o,none⟩/\b<N/\∀i j,i<len ->j<k ->Cl h b (o+i*k+j) (c i j)
def I64(x:Int):Prop:=-9223372036854775808<=x/\x<=9223372036854775807
def KL(N:Nat)(h:Array Obj)(a:Option Addr)(l:List Int):Prop:=Rw N h a 1 l.length (λi _=>iV (l.getD i 0))/\∀x∈l,I64 x
def EC(N:Nat)(h:Array Obj)(a:Option Addr)(l:List Atom):Prop:=
 Rw N h a 2 l.length (λi j=>iV (if j=0 then (l.getD i default).var else (l.getD i default).add))/\∀x∈l,I64 x.var/\I64 x.add
def zv(N:Nat)(h:Array Obj)(a:Option Addr)(l:List be):Prop:=
 Rw N h a 3 l.length (λi j=>iV (if j=0 then (l.getD i default).low else if j=1 then (l.getD i default).add else (l.getD i default).high))/\∀x∈l,I64 x.low/\I64 x.add/\I64 x.high
theorem KM{α:Type} [Inhabited α](l:List α)(k:Nat)(h:k<l.length):l.drop k=l.getD k default::l.drop (k+1):=by
 rw[List.drop_eq_getElem_cons h];simp[h]
theorem KN{h:Array Obj}{b o:Nat}{x y:Value}(c:Cl h b (o+0) x)(h1:Cl h b (o+1) y):∀j v,[x,y][j]?=some v ->Cl h b (o+j) v:=by
 intro j v a
 match j,a with
 |0,a=>simp at a;subst a;exact c
 |1,a=>simp at a;subst a;exact h1
 |j+2,a=>simp at a
def Dp'(vars:Int)(os:List be)(w:World)(e:Ending)(w':World):Prop:=
 Kp [] w w'/\match fx vars os with
  | .error n=>e= .returned (.tuple #[.map none,iV n])
  | .ok g=>∃b,e= .returned (.tuple #[.map (some b),iV 0])/\Gr w'.heap b g/\w.heap.size<=b
theorem Kp.own{w a c:World}{b:Nat}(h:Kp [] w a)(k:Kp [b] a c)(hb:w.heap.size<=b):Kp [] w c:=
 h.trans k λx d e=>by
  have:x=b:=by simpa using d
  omega
def fX(vars:Int):List Atom ->Int ->Bool
 |[],_=>true
 |x::r,last=>if x.var<=last \/vars<x.var \/x.add<0 \/1000<x.add then false else fX vars r x.var
def cN(l:List Atom)(vars:Int):Bool:=
 if vars<0 \/16<vars \/l.length<1 \/4<l.length then false else fX vars l (-1)
theorem ED(l:List Atom)(a:Option Addr)(cap:Nat)(vars:Int)(w:World){N:Nat}(A:EC N w.heap a l):
  CC 222 #[.slice a l.length cap,iV vars] w (λe w'=>e= .returned (.bool (cN l vars))/\Kp [] w w'):=by
 refine oF func222 ?_;refine cO (args:=[_,_]) 53 [.tmp 4] τok func222 ?_;have p:vars<0 \/16<vars \/l.length<1 \/4<l.length ->cN l vars=false:=λh=>by unfold cN;rw[KX h]
 refine dm (λB=>?_) (λB=>?_)
 ·exact⟨by rw[p (by omega)];rfl,Kp.refl _ _⟩
 refine dm (λC=>?_) (λC=>?_)
 ·exact⟨by rw[p (by omega)];rfl,Kp.refl _ _⟩
 refine dm (λD=>?_) (λD=>?_)
 ·exact⟨by rw[p (by omega)];rfl,Kp.refl _ _⟩
 refine dm (λE=>?_) (λE=>?_)
 ·exact⟨by rw[p (by omega)];rfl,Kp.refl _ _⟩
 rcases A.1 with P|⟨b,o,rfl,R,y⟩
 ·omega
 refine loop τok (σ:=Nat×Int) (λx=>[(24,.slice (some ⟨b,o,none⟩) l.length cap),(25,iV l.length),(26,iV x.1),(5,iV x.2),(1,iV vars)])
  (λx w'=>x.1<=l.length/\cN l vars=fX vars (l.drop x.1) x.2/\Kp [] w w') (λx=>l.length-x.1) (0,-1) ⟨rfl,rfl,rfl,rfl,rfl,trivial⟩ ⟨KV _,?_,Kp.refl _ _⟩ ?_
 ·unfold cN;rw[KY (by omega)];rfl
 rintro⟨k,j⟩ S ⟨T,q,g⟩;refine dm (λF=>?_) (λF=>?_)
 ·have d:k<l.length:=by omega
  obtain⟨x,z⟩:∃x,x=l.getD k default:=⟨_,rfl⟩
  rw[KM l k d,<- z]at q;have m:=(y k 0 d (by omega)).kp g (by simp);have n:=(y k 1 d (by omega)).kp g (by simp);simp only[if_true,if_false,Nat.one_ne_zero,<- z]at m n;refine ix k rfl d ?_;refine lz [iV x.var,iV x.add] rfl (KN m n) ?_;refine jC λU V r s H t=>?_;refine stN s rfl (by simp[Value.oneCell']) λW f I u=>?_;have c:=g.tr (t.newSt r u);have i:(x.var<=j \/vars<x.var \/x.add<0 \/1000<x.add) ->cN l vars=false:=λh=>by rw[q];simp only[fX];rw[KX h]
  refine ld (f.cl rfl).cell ?_;refine dm (λc1=>?_) (λc1=>?_)
  ·exact⟨by rw[i (by omega)];rfl,c⟩
  refine ld (f.cl rfl).cell ?_;refine dm (λK=>?_) (λK=>?_)
  ·exact⟨by rw[i (by omega)];rfl,c⟩
  refine ld (f.cl rfl).cell ?_;refine dm (λM=>?_) (λM=>?_)
  ·exact⟨by rw[i (by omega)];rfl,c⟩
  refine ld (f.cl rfl).cell ?_;refine dm (λO=>?_) (λO=>?_)
  ·exact⟨by rw[i (by omega)];rfl,c⟩
  refine ld (f.cl rfl).cell ?_;refine i6 ?_;refine⟨(k+1,x.var),by simp only;omega,rfl,⟨rfl,rfl,rfl,rfl,rfl,trivial⟩,d,?_,c⟩;rw[q];simp only[fX];rw[KY (by omega)]
 ·refine⟨?_,g⟩
  rw[q,JY (by omega)]
  rfl
def od(p:Atom ->Bool):List Atom ->Int ->Int
 |[],_=>-1
 |x::r,i=>if p x then i else od p r (i+1)
theorem EE(p:Atom ->Bool):∀(l:List Atom) (i:Int),0<=i ->(decide (0<=od p l i)=l.any p)
 |[],i,_=>by simp[od]
 |x::r,i,h=>by
  simp only[od,List.any_cons]
  by_cases a:p x=true
  ·simp[a,h]
  ·simp[a,EE p r (i+1) Uo]
def KO(f:FuncId)(captured:Array Value)(w:World)(p:Atom ->Bool)(x:Atom):Prop:=
 dM prog f/\Calls prog f (#[]++[Value.agg [iV x.var,iV x.add].toArray].toArray++captured) w (λe w'=>e= .returned (.bool (p x))/\Kp [] w w')
def dw(g:G)(x y:Atom):Bool:=match g x.var y.var with
 |none=>false
 |some d=>decide (x.add-y.add<=d)
def j6(vars:Int)(os:List be)(a b:List Atom):Bool:=match fx vars os with
 | .error _=>false
 | .ok g=>cN a vars && cN b vars && a.all λx=>b.any (dw g x)
theorem j7{l:List Atom}{vars:Int}(h:cN l vars=true):l.length<=4/\∀x∈l,0<=x.add/\x.add<=1000/\0<=x.var/\x.var<=vars:=by
 unfold cN at h;split at h
 ·cases h
 ·rename_i d
  refine⟨Uo,?_⟩;have c:∀(l:List Atom) (a:Int),-1<=a ->fX vars l a=true ->∀x∈l,0<=x.add/\x.add<=1000/\0<=x.var/\x.var<=vars:=by
   intro l
   induction l with
   |nil=>intro _ _ _ x b;cases b
   |cons y r e=>
    intro a f h x b;simp only[fX]at h;split at h
    ·cases h
    ·rename_i d
     rcases List.mem_cons.1 b with rfl|b
     ·omega
     ·exact e y.var Uo h x b
  exact c l (-1) Uo h
def qq(vars:Int)(os:List be):Int:=match fx vars os with
 | .error n=>n
 | .ok _=>0
end Go.Q
