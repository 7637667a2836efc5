import Derived.Test.YtjnjbghlemiklaaGreatMq07
import Derived.Maps.OwnSet
import Derived.Maps.Range
import Derived.Lib.AppendZerosOnto
import Derived.Laws.StructEq
import Derived.ArgAppend
set_option linter.unusedVariables false
set_option linter.unusedSimpArgs false
set_option linter.unusedSectionVars false
set_option maxHeartbeats 4000000
open Go.Proofs.Tryz
namespace Go.Proofs.YtjnjbghlemiklaaGreat
open Go.Wx Lv
def jR(f:Int ->Option Int)(k v:Int):Int ->Option Int:=λx=>if x=k then some v else f x
def upd(f:Int ->Option Int)(x:Atom):Int ->Option Int:=match f x.var with
 |none=>jR f x.var x.add
 |some v=>if v<x.add then jR f x.var x.add else f
def mapF(l:List Atom):Int ->Option Int:=l.foldl upd (λ_=>none)
theorem s6(l:List Atom)(x:Atom):mapF (l++[x])=upd (mapF l) x:=by simp[mapF]
theorem xC{f:Int ->Option Int}{x:Atom}{k:Int}(h:k≠x.var):upd f x k=f k:=by
 unfold upd;cases a:f x.var with
 |none=>simp[jR,h]
 |some v=>
  simp only;split
  ·simp[jR,h]
  ·rfl
theorem s7(f:Int ->Option Int)(x:Atom):upd f x x.var=some (match f x.var with|none=>x.add|some v=>if v<x.add then x.add else v):=by
 unfold upd;cases a:f x.var with
 |none=>simp[jR]
 |some v=>
  simp only;split
  ·simp[jR]
  ·exact a
theorem fold_from{k v:Int}:∀(l:List Atom) (f:Int ->Option Int),l.foldl upd f k=some v ->f k=some v \/∃y∈l,y.var=k/\y.add=v
 |[],f,h=>.inl h
 |x::l,f,h=>by
  rcases fold_from l (upd f x) h with h1|⟨y,c,h1⟩
  ·by_cases a:k=x.var
   ·subst a
    rw[s7]at h1;cases b:f x.var with
    |none=>rw[b]at h1;simp at h1;exact .inr ⟨x,Od,rfl,h1⟩
    |some u=>
     rw[b]at h1;simp only at h1;split at h1
     ·exact .inr ⟨x,Od,rfl,by simpa using h1⟩
     ·exact .inl (by simpa using h1)
   ·rw[xC a]at h1
    exact .inl h1
  ·exact .inr ⟨y,by simp[c],h1⟩
theorem CV{k:Int}:∀(l:List Atom) (f:Int ->Option Int) (u:Int),f k=some u ->∃v,l.foldl upd f k=some v/\u<=v
 |[],f,u,h=>⟨u,h,Int.le_refl _⟩
 |x::l,f,u,h=>by
  have:∃a,upd f x k=some a/\u<=a:=by
   by_cases b:k=x.var
   ·subst b
    rw[s7,h];simp only;split
    ·exact⟨x.add,rfl,Oo⟩
    ·exact⟨u,rfl,Int.le_refl _⟩
   ·exact⟨u,by rw[xC b];exact h,Int.le_refl _⟩
  obtain⟨a,c,e⟩:=this;obtain⟨v,d,g⟩:=CV l (upd f x) a c;exact⟨v,d,Oo⟩
theorem qh':∀(l:List Atom) (f:Int ->Option Int) (y:Atom),y∈l ->∃v,l.foldl upd f y.var=some v/\y.add<=v
 |x::l,f,y,h=>by
  rcases List.mem_cons.1 h with rfl|h
  ·obtain⟨v,h1,h2⟩:=CV (k:=y.var) l (upd f y) _ (s7 f y)
   refine⟨v,h1,?_⟩;cases a:f y.var with
   |none=>rw[a]at h2;exact h2
   |some u=>
    rw[a]at h2;simp only at h2;split at h2<;>omega
  ·exact qh' l (upd f x) y h
theorem s8{l:List Atom}{k v:Int}(h:mapF l k=some v):∃y∈l,y.var=k/\y.add=v:=by
 rcases fold_from l _ h with h|h
 ·cases h
 ·exact h
theorem IN{l:List Atom}{y:Atom}(h:y∈l):∃v,mapF l y.var=some v/\y.add<=v:=qh' l _ y h
theorem IP{l:List Atom}{k:Int}(h:∀y∈l,y.var≠k):mapF l k=none:=by
 cases a:mapF l k with
 |none=>rfl
 |some v=>obtain⟨y,b,e,_⟩:=s8 a;exact absurd e (h y b)
theorem CW{vars:Int}:∀{l:List Atom} {a:Int},eX vars l a=true ->(∀x∈l,a<x.var)/\l.Pairwise (λx y=>x.var<y.var)
 |[],_,_=>⟨Od,List.Pairwise.nil⟩
 |x::l,a,h=>by
  simp only[eX]at h;split at h
  ·cases h
  rename_i c;obtain⟨h1,h2⟩:=CW h;refine⟨λy b=>?_,List.pairwise_cons.2 ⟨λy b=>h1 y b,h2⟩⟩;rcases List.mem_cons.1 b with rfl|b
  ·omega
  ·have:=h1 y b
   omega
theorem xD{l:List Atom}{vars:Int}(h:cF l vars=true):l.Pairwise (λx y=>x.var<y.var)/\1<=l.length:=by
 unfold cF at h;split at h
 ·cases h
 ·exact⟨(CW h).2,Oo⟩
def gB(f:Int ->Option Int)(r:List Nat):List Int:=(r.filter λ(v:Nat)=>(f v).isSome).map λ(v:Nat)=>(v:Int)
def maxL(a b:List Atom):List Atom:=(List.range 17).filterMap λ(v:Nat)=>(mapF (a++b) v).map λn=>⟨(v:Int),n⟩
theorem xE(f:Int ->Option Int):∀r:List Nat,(r.filterMap λ(v:Nat)=>(f v).map λn=>(⟨(v:Int),n⟩:Atom)).map Atom.var=gB f r
 |[]=>rfl
 |v::r=>by
  have a:=xE f r;unfold gB at a ⊢;rw[List.filterMap_cons];cases h:f v with
  |none=>simp[h];simpa using a
  |some n=>simp[h];simpa using a
def cB(a b:List Atom):Int:=if cF a 16=false \/cF b 16=false then 19 else if 4<(maxL a b).length then 5 else 0
def dh(a b:List Atom):List Atom:=if cB a b=0 then maxL a b else []
theorem xF(f:Int ->Option Int)(n:Nat):(gB f (List.range n)).Pairwise (· < ·):=by
 unfold gB;refine List.pairwise_map.2 (List.Pairwise.imp (R:=(· < ·)) (λh=>Oo) ((List.pairwise_lt_range (n:=n)).filter _))
theorem IQ{f:Int ->Option Int}{n:Nat}(a:∀x v,f x=some v ->0<=x/\x<n)(x:Int):x∈gB f (List.range n)↔(f x).isSome=true:=by
 unfold gB;simp only[List.mem_map,List.mem_filter,List.mem_range];constructor
 ·rintro⟨v,⟨d,b⟩,rfl⟩
  exact b
 ·intro h
  obtain⟨v,c⟩:=Option.isSome_iff_exists.1 h;have:=a x v c;exact⟨x.toNat,⟨Oo,by rw[Int.toNat_of_nonneg this.1];exact h⟩,Int.toNat_of_nonneg this.1⟩
theorem s9{x:Int}(h:I64 x):(Lit.int .i64 x).wf=true:=by
 unfold I64 at h;simp[Lit.wf,IntKind.min,IntKind.max,IntKind.signed,IntKind.bits];omega
def MV(w:World)(b:Nat)(f:Int ->Option Int)(n:Nat):Prop:=∃D:DataW Unit,w.ownsMap prog 3 (plainElem prog 3) b n D/\
 ∀x,I64 x ->Maps.has D (.int .i64 x)=(f x).isSome/\D.atKey (.int .i64 x) (.lit (.int .i64 0))= .lit (.int .i64 ((f x).getD 0))
theorem MV.kp{w w':World}{b n:Nat}{f:Int ->Option Int}{X:List Nat}(h:MV w b f n)(k:Kp X w w')(hb:b ∉ X):MV w' b f n:=by
 obtain⟨D,d,e⟩:=h;have g:=d.lt;obtain⟨i,a,c,Ft,j,l⟩:=d;exact⟨D,⟨i,a,by rw[k.block b g hb];exact c,Ft,j,l⟩,e⟩
theorem MV.lt{w:World}{b n:Nat}{f:Int ->Option Int}(h:MV w b f n):b<w.heap.size:=by
 obtain⟨D,a,_⟩:=h;exact a.lt
theorem MV.made{w:World}{k:Value ->World ->Prop}(a:∀b w',b=w.heap.size ->MV w' b (λ_=>none) 0 ->w'.heap.size=b+1 ->Kp [] w w' ->k (.map (some b)) w'):EvRun prog (Instr.makeMap 182 none) w k:=by
 refine run (show (Instr.makeMap 182 none).run prog w= .ok (.map (some w.heap.size)) (w.alloc (.map #[] 0))from rfl) (a _ _ rfl ⟨.map [],World.ownsMap_made w _ _ _,λx _=>⟨rfl,rfl⟩⟩ Od (Kp.alloc _ _))
theorem MV.look{w:World}{b n:Nat}{f:Int ->Option Int}(h:MV w b f n){x:Int}(e:I64 x){k:Value ->World ->Prop}(g:k (.tuple #[.int .i64 ((f x).getD 0),.bool (f x).isSome]) w):EvRun prog (Instr.lookup 182 (.map (some b)) (.int .i64 x) true) w k:=by
 obtain⟨D,i,j⟩:=h;obtain⟨v,p,a,l⟩:=i.look_ok (Maps.int_keyed underlying3) underlying182 (Tryz.zeroValue3 w) (plainElem_int underlying3 OO) (Maps.keyOf_int_mk underlying3 (s9 e));obtain⟨c,rfl,d,_⟩:=plainElem_int_inv underlying3 l;obtain⟨m,o⟩:=j x e;rw[o]at d;simp at d;rw[m]at a;rw[<- d.1]at a;exact run a g
theorem MV.look1{w:World}{b n:Nat}{f:Int ->Option Int}(h:MV w b f n){x:Int}(d:I64 x){k:Value ->World ->Prop}(g:k (.int .i64 ((f x).getD 0)) w):EvRun prog (Instr.lookup 182 (.map (some b)) (.int .i64 x) false) w k:=by
 obtain⟨D,i,j⟩:=h;obtain⟨c,e,a,_⟩:=i.lookup_int (Maps.int_keyed underlying3) underlying182 underlying3 (Tryz.zeroValue3 w) (Maps.keyOf_int_mk underlying3 (s9 d));rw[(j x d).2]at a;simp at a;rw[<- a]at e;exact run e g
theorem MV.put{w:World}{b n:Nat}{f:Int ->Option Int}(h:MV w b f n)(q:n<1000000){x v:Int}(d:I64 x)(g:I64 v){k:World ->Prop}(i:∀w',MV w' b (jR f x v) (n+1) ->Kp [b] w w' ->k w'):EvRunU prog (Instr.mapUpdate 182 (.map (some b)) (.int .i64 x) (.int .i64 v)) w k:=by
 obtain⟨D,c,j⟩:=h;obtain⟨w',l,m,o⟩:=c.update (Maps.int_keyed underlying3) underlying182 (by unfold maxLen;omega) (Maps.keyOf_int_mk underlying3 (s9 d)) (plainElem_int underlying3 (s9 g));refine pC l (i w' ⟨_,m,λy p=>?_⟩ (by simpa using pE o))
 by_cases e:y=x
 ·subst e
  rw[Maps.has_put_same c.isMap (by trivial),Maps.atKey_put_same c.isMap (by trivial)];simp[jR]
 ·have a:(Lit.int .i64 y)≠ .int .i64 x:=by simpa using e
  rw[Maps.has_put_other a,Maps.atKey_put_other a];simp only[jR,if_neg e];exact j y p
theorem MV.keys{w:World}{b n:Nat}{f:Int ->Option Int}{m:Nat}(h:MV w b f n)(hm:m<=1000)(r:∀x v,f x=some v ->0<=x/\x<m):
  ∃D:DataW Unit,w.ownsMap prog 3 (plainElem prog 3) b n D/\(gB f (List.range m)).Perm (intKeys D)/\Maps.size D=(gB f (List.range m)).length:=by
 obtain⟨D,k,s⟩:=h;obtain⟨t,d,l,_⟩:=k.entries (Maps.int_keyed underlying3);obtain⟨o,e,g⟩:=k.keysOf;obtain rfl:t=o:=by rw[d]at e;simpa using e
 have q:(gB f (List.range m)).Nodup:=(xF f m).imp (λh=>Oo);have c:(gB f (List.range m)).Perm (intKeys D):=by
  rw[d];refine perm_intKeys l (λp c=>?_) q λx=>?_
  ·obtain⟨v,i⟩:=g p c
   obtain⟨x,_,j,_⟩:=Maps.keyOf_i64 underlying3 i;exact⟨x,j⟩
  ·rw[IQ r x,<- d]
   by_cases j:I64 x
   ·rw[(s x j).1]
   ·constructor
    ·intro a
     obtain⟨v,i⟩:=Option.isSome_iff_exists.1 a;have:=r x v i;exact absurd (by unfold I64;omega) j
    ·intro a
     exfalso;rw[d,Maps.has_eq,List.any_eq_true]at a;obtain⟨p,c,a⟩:=a;obtain⟨v,i⟩:=g p c;obtain⟨y,_,u,z⟩:=Maps.keyOf_i64 underlying3 i;rw[u]at a;have:y=x:=by simpa[Lit.sameKey]using a
     subst this;apply j;unfold I64;simp[Lit.wf,IntKind.min,IntKind.max,IntKind.signed,IntKind.bits]at z;omega
 refine⟨D,k,c,?_⟩;rw[c.length_eq,d];simp[Maps.size_eq,intKeys]
theorem IR{f:Int ->Option Int}{m:Nat}{a:List Int}(h:a.Perm (gB f (List.range m))):a.mergeSort (λx y=>decide (x<=y))=gB f (List.range m):=by
 have e:=mergeSort_of_perm_i h;unfold leI at e;rw[e];refine List.mergeSort_of_pairwise (List.Pairwise.imp (λh=>OK) (xF f m))
def rAt:Rd Atom where
 sz:=2
 den _ cs x:=cs=[.int .i64 x.var,.int .i64 x.add]/\I64 x.var/\I64 x.add
 len:=by rintro _ cs x ⟨rfl,_⟩;rfl
 mono:=by rintro _ _ cs x _ h;exact h
 one:=by rintro _ cs x ⟨rfl,_⟩ u hu;simp at hu;rcases hu with rfl|rfl<;>rfl
theorem CX{C:Mem}{a:Option Addr}{l:List Atom}(h:Sl rAt C a l){i:Nat}{x:Atom}(hi:l[i]?=some x):∃b o,a=some ⟨b,o,none⟩/\C b (o+i*2) (.int .i64 x.var)/\C b (o+i*2+1) (.int .i64 x.add)/\I64 x.var/\I64 x.add:=by
 obtain⟨b,o,d,e⟩:=h.at (aI hi)
 obtain⟨j,⟨rfl,f,g⟩,c⟩:=e i x hi;exact⟨b,o,d,c 0 _ rfl,c 1 _ rfl,f,g⟩
theorem Sl.atoms{C:Mem}{w:World}{a:Option Addr}{l:List Atom}(h:Sl rAt C a l)(g:Sub C w):Cc w.heap.size w.heap a l:=by
 refine⟨?_,λx m=>?_⟩
 ·rcases h.2 with c|⟨b,o,n,p⟩
  ·exact .inl c
  ·rcases Nat.eq_zero_or_pos l.length with c|c
   ·exact .inl c
   have d:∀i j,i<l.length ->j<2 ->Cl w.heap b (o+i*2+j) (.int .i64 (if j=0 then (l.getD i default).var else (l.getD i default).add)):=λi j f q=>by
    obtain⟨t,⟨rfl,_⟩,k⟩:=p i l[i] Od;have e:l.getD i default=l[i]:=by simp[f]
    rw[e]
    match j,q with
    |0,_=>exact g _ _ _ (k 0 _ rfl)
    |1,_=>exact g _ _ _ (k 1 _ rfl)
   exact .inr ⟨b,o,n,(d 0 0 c Oo).lt,d⟩
 ·obtain⟨i,f⟩:=JH m
  obtain⟨_,_,_,_,_,r,s⟩:=CX h f;exact⟨r,s⟩
theorem CX':∀(C C':Mem) (cs:List Value) (x:Atom),rAt.den C cs x ->rAt.den C' cs x:=λ_ _ _ _ h=>h
theorem IS(n:Nat)(a:0<n)(b:n<=1000000)(w:World):
  CC 176 #[.slice none 0 0,.int .i64 (n:Int)] w (λe w'=>∃v,e= .returned v/\Own rAt 48 w.heap.size w' v []/\Kp [] w w'):=by
 refine oF func176 ?_;refine cO (args:=[_,_]) 27 [.tmp 4] τok func176 ?_;refine mw rfl<|i6 ?_;refine i6 ?_;refine da (λg=>?_) (λg=>?_);rotate_left
 ·exact absurd Oo g
 refine mw rfl<|lY τok rfl 0 (.slice none 0 0) rfl (KJ _) rfl ?_;have e:((n:Int)-((0:Nat)-(0:Nat):Int))=(n:Int):=Oo
 rw[e];refine wP (R:=rAt) rfl rfl OO rfl OO n a b λB G f h i c d=>?_;exact lY τok rfl 0 _ rfl (KV _) ol<|⟨_,rfl,c,d⟩
theorem IT{D:Mem}{w:World}(p:Sub D w)(ls:List (List Atom))(a:Option Addr)(cap:Nat)(hl:Sl (rO rAt) D a ls)(z:ls.length<=1000)(h:(ls.map List.length).sum<=1000000)(i:0<(ls.map List.length).sum):
  CC 143 #[.slice a ls.length cap] w (λe w'=>∃v,e= .returned v/\Own rAt 48 w.heap.size w' v ls.flatten/\Kp [] w w'):=by
 refine oF func143 ?_;refine cO (args:=[_]) 36 [.tmp 2] τok func143 ?_;have E:=p.lt;have f:∀k,((ls.take k).map List.length).sum+((ls.drop k).map List.length).sum=(ls.map List.length).sum:=λk=>by
  rw[<- List.sum_append,<- List.map_append,List.take_append_drop]
 refine lp τok (σ:=Nat) (λk=>[(0,.slice a ls.length cap),(3,.int .i64 (((ls.take k).map List.length).sum:Nat)),(9,.slice a ls.length cap),(10,.int .i64 ls.length),(11,.int .i64 k)]) (λk w'=>k<=ls.length/\w'=w) (λk=>ls.length-k) 0 rfl
  ⟨rfl,rfl,rfl,rfl,rfl,trivial⟩ ⟨KV _,rfl⟩ ?_
 rintro k s ⟨A,rfl⟩;refine da (λF=>?_) (λF=>?_)
 ·have c:k<ls.length:=Oo
  obtain⟨x,j,H⟩:=ay c;have r:((ls.take (k+1)).map List.length).sum=((ls.take k).map List.length).sum+x.length:=by rw[dA j];simp
  have I:=f (k+1);obtain⟨b,o,rfl,K,cx,d,l⟩:=hl.sl j;refine ix k rfl c<|zN p d<|i6 ?_;refine i6<|⟨k+1,Oo,rfl,⟨rfl,?_,rfl,rfl,rfl,trivial⟩,c,rfl⟩;rw[r]
  rfl
 have L:ls.take k=ls:=JG Oo;rw[L];refine ir (IS _ i h s) ?_;rintro e P ⟨M,rfl,m,t⟩;refine lp τok (σ:=Nat×Value) (λq=>[(6,q.2),(25,.slice a ls.length cap),(26,.int .i64 ls.length),(27,.int .i64 q.1)]) (λq w'=>q.1<=ls.length/\Own rAt 48 s.heap.size w' q.2 (ls.take q.1).flatten/\Kp [] s w') (λq=>ls.length-q.1) (0,M) rfl
  ⟨rfl,rfl,rfl,rfl,trivial⟩ ⟨KV _,by simpa using m,t⟩ ?_
 clear m
 rintro⟨k,v⟩ Q ⟨A,n,g⟩;simp only at A n;refine da (λN=>?_) (λN=>?_)
 ·have c:k<ls.length:=Oo
  obtain⟨x,j,H⟩:=ay c;have r:(ls.take (k+1)).flatten=(ls.take k).flatten++x:=by rw[dA j];simp
  have I:=f (k+1);have R:((ls.take (k+1)).map List.length).sum=(ls.take k).flatten.length+x.length:=by rw[<- List.length_flatten,r];simp
  obtain⟨b,o,rfl,K,cx,d,l⟩:=hl.sl j;refine ix k rfl c<|zN (p.tr g) d<|n.apF τok rfl rfl OO CX' (p.tr g) x l Oo (by unfold maxLen;omega) λO S u y _=>?_;refine i6<|⟨(k+1,O),OS,rfl,⟨rfl,rfl,rfl,rfl,trivial⟩,c,?_,g.own y n⟩;rw[r];exact u
 ·rw[JG Oo]at n
  exact⟨v,rfl,n,g⟩
theorem IU{a b:List Atom}(ha:cF a 16=true)(hb:cF b 16=true):∀x v,mapF (a++b) x=some v ->(0<=x/\x<(17:Nat))/\0<=v/\v<=1000:=λx v h=>by
 obtain⟨y,c,rfl,rfl⟩:=s8 h;rcases List.mem_append.1 c with c|c
 ·have:=(jg ha).2 y c;omega
 ·have:=(jg hb).2 y c;omega
theorem ints_at{w:World}{lo:Nat}{v:Value}{l:List Int}(h:w.ownsRow lo 3 1 v l.length (l.map (Value.int .i64))):∃a cap,v= .slice a l.length cap/\∀i x,l[i]?=some x ->∃g,a=some ⟨g,0,none⟩/\lo<=g/\Cl w.heap g (0+i*1) (.int .i64 x):=by
 rcases h.2 with ⟨rfl,e⟩|⟨g,cap,b,rfl,f,j,n,o,p,k⟩
 ·exact⟨none,0,by rw[e],λi x c=>by have:=aI c;omega⟩
 ·refine⟨_,cap,rfl,λi x c=>⟨g,rfl,f,b,3,(0,0),j,?_⟩⟩
  have m:=aI c;have d:(b.toList.take (l.length*1))[i]?=(l.map (Value.int .i64))[i]?:=by rw[k]
  rw[List.getElem?_take_of_lt Oo]at d;simp only[JX,c,Option.map_some]at d;rw[KW,Nat.mul_one]
  simpa using d
theorem IV{C:Mem}{w:World}(hS:Sub C w)(a b:List Atom)(aa ab:Option Addr)(ca cb:Nat)(ha:Sl rAt C aa a)(hb:Sl rAt C ab b):
  CC 93 #[.slice aa a.length ca,.slice ab b.length cb] w (λe w'=>∃R S,e= .returned (.tuple #[.slice R (dh a b).length S,.int .i64 (cB a b)])/\(Sl rAt (New w.heap.size w') R (dh a b)/\(dh a b).length<=S)/\Kp [] w w'):=by
 refine oF func93 ?_;refine cO (args:=[_,_]) 74 [.tmp 4,.tmp 5] τok func93 ?_;have T:∀e w',cB a b=e ->e≠0 ->Kp [] w w' ->∃R S,Ending.returned (Go.Wx.one [.slice none 0 0,.int .i64 e])= .returned (.tuple #[.slice R (dh a b).length S,.int .i64 (cB a b)])/\(Sl rAt (New w.heap.size w') R (dh a b)/\(dh a b).length<=S)/\Kp [] w w':=λe w' he h0 hk=>by
  have hr:dh a b=[]:=by unfold dh;rw[if_neg (by rw[he];exact h0)]
  rw[hr,he];exact⟨none,0,rfl,⟨Sl.nil _ _ _,KV _⟩,hk⟩
 refine ir (Ce a aa ca 16 w (Sl.atoms ha hS)) ?_;rintro e w1 ⟨rfl,U⟩;refine br (λM=>?_) (λM=>?_)
 ·exact T 19 _ (by unfold cB;rw[if_pos (.inl (by simpa using M))]) Oo U
 have M:cF a 16=true:=by simpa using M
 refine ir (Ce b ab cb 16 w1 (Sl.atoms hb (hS.tr U))) ?_;rintro e w2 ⟨rfl,c4⟩;have V:=U.tr c4;refine br (λN=>?_) (λN=>?_)
 ·exact T 19 _ (by unfold cB;rw[if_pos (.inr (by simpa using N))]) Oo V
 have N:cF b 16=true:=by simpa using N
 have hE:cB a b=if 4<(maxL a b).length then 5 else 0:=by unfold cB;rw[if_neg (by simp[M,N])]
 have f2:=(jg M).1;have f3:=(jg N).1;have e9:=(xD M).2;have e':=(xD N).2;have O:=IU M N;refine MV.made λA w3 f4 c5 f5 c6=>?_;have c7:=V.tr c6;refine fill [.slice aa a.length ca,.slice ab b.length cb] rfl ?_;refine iO λbx w4 f6 c8 f7 a4=>?_;have a5:=c7.tr a4;obtain⟨C1,L⟩:∃C1:Mem,C1=λb' o v=>C b' o v \/(b'=bx/\[Value.slice aa a.length ca,.slice ab b.length cb][o]?=some v):=⟨_,rfl⟩
 have c9:Sub C1 w4:=by
  rw[L];rintro b' o v (h|⟨rfl,h⟩)
  ·exact(hS.tr a5) _ _ _ h
  ·exact c8.cl h
 have a6:∀b o v,C b o v ->C1 b o v:=by rw[L];exact λb o v h=>Or.inl h
 have c':Sl (rO rAt) C1 (some ⟨bx,0,none⟩) [a,b]:=⟨Od,.inr ⟨bx,0,rfl,λi x W=>by
  match i with
  |0=>
   simp at W;subst W;exact⟨_,⟨aa,ca,rfl,ha.mono a6⟩,λj v d=>by
    match j with
    |0=>simp at d;subst d;rw[L];exact Or.inr ⟨rfl,rfl⟩
    |j+1=>simp at d⟩
  |1=>
   simp at W;subst W;exact⟨_,⟨ab,cb,rfl,hb.mono a6⟩,λj v d=>by
    match j with
    |0=>simp at d;subst d;rw[L];exact Or.inr ⟨rfl,rfl⟩
    |j+1=>simp at d⟩
  |i+2=>simp at W⟩⟩
 refine ir (IT c9 [a,b] (some ⟨bx,0,none⟩) 2 c' Od OK OK) ?_;rintro e w5 ⟨v5,rfl,a7,a8⟩;have d0:=a5.tr a8;have d1:[a,b].flatten=a++b:=Od
 rw[d1]at a7;have f0:(a++b).length=a.length+b.length:=Od
 obtain⟨ac,cc,rfl,d2⟩:=a7.den Oo;refine lp τok (σ:=Nat×Nat) (λq=>[(6,.map (some A)),(26,.slice ac (a++b).length cc),(27,.int .i64 (a++b).length),(28,.int .i64 q.1)])
  (λq w'=>q.1<=(a++b).length/\q.2<=q.1/\MV w' A (mapF ((a++b).take q.1)) q.2/\Kp [A] w5 w') (λq=>(a++b).length-q.1) (0,0) rfl ⟨rfl,rfl,rfl,rfl,trivial⟩ ⟨KV _,KJ _,(c5.kp a4 Od).kp a8 Od,Kp.refl _ _⟩ ?_
 rintro⟨i,n⟩ w6 ⟨W,hn,hM,E⟩;simp only at W hn hM;refine da (λg3=>?_) (λg3=>?_)
 ·have c:i<(a++b).length:=Oo
  obtain⟨x,hx,hd⟩:=ay c;have a9:=dA hx;obtain⟨bc,oc,rfl,a',b0,X,b1⟩:=CX d2 hx;have d3:Cl w6.heap bc (oc+i*2) (.int .i64 x.var):=a'.2.cl.kp E (by have:=a'.1;simp;omega);have d4:Cl w6.heap bc (oc+i*2+1) (.int .i64 x.add):=b0.2.cl.kp E (by have:=b0.1;simp;omega);refine ix i rfl c ?_;refine j4 [.int .i64 x.var,.int .i64 x.add] rfl (λj v d=>?_) ?_
  ·match j with
   |0=>simp at d;subst d;exact d3
   |1=>simp at d;subst d;exact d4
   |j+2=>simp at d
  refine iO λb7 w7 d5 d6 f8 d7=>?_;refine stN (vs:=[.int .i64 x.var,.int .i64 x.add]) d6 rfl (by simp[Value.oneCell']) λw8 s f9 Y=>?_;have H:Kp [] w6 w8:=d7.newSt d5 Y;have t:=hM.kp H Od;have Z:Kp [A] w5 w8:=E.tr H;refine ld (s.cl rfl).cell ?_;refine t.look X ?_;have next:∀w',MV w' A (upd (mapF ((a++b).take i)) x) (n+1) ->Kp [A] w5 w' ->MV w' A (mapF ((a++b).take (i+1))) (n+1)/\Kp [A] w5 w':=λw' h1 h2=>by
   rw[a9,s6];exact⟨h1,h2⟩
  generalize hF:mapF ((a++b).take i)=F at *
  refine br (λP=>?_) (λP=>?_)
  ·have P:F x.var=none:=by simpa using P
   refine ld (s.cl rfl).cell ?_;refine ld (s.cl rfl).cell ?_;refine t.put Oo X b1 λw9 I f=>?_;have hu:upd F x=jR F x.var x.add:=by unfold upd;rw[P]
   rw[<- hu]at I;obtain⟨n1,n2⟩:=next w9 I (Z.trans f (λy hy _=>hy));refine i6 ?_;exact⟨(i+1,n+1),OS,rfl,⟨rfl,rfl,rfl,rfl,trivial⟩,c,OS,n1,n2⟩
  ·obtain⟨u,hu⟩:∃u,F x.var=some u:=Option.isSome_iff_exists.1 (by simpa using P)
   refine ld (s.cl rfl).cell ?_;refine da (λl=>?_) (λl=>?_)
   ·have l:u<x.add:=by
     have l:(F x.var).getD 0<x.add:=l;rw[hu]at l;exact l
    refine ld (s.cl rfl).cell ?_;refine ld (s.cl rfl).cell ?_;refine t.put Oo X b1 λw9 I f=>?_;have a0:upd F x=jR F x.var x.add:=by unfold upd;rw[hu];simp only;rw[if_pos l]
    rw[<- a0]at I;obtain⟨n1,n2⟩:=next w9 I (Z.trans f (λy hy _=>hy));refine i6 ?_;exact⟨(i+1,n+1),OS,rfl,⟨rfl,rfl,rfl,rfl,trivial⟩,c,OS,n1,n2⟩
   ·have l:¬ u<x.add:=by
     have l:¬ (F x.var).getD 0<x.add:=l;rw[hu]at l;exact l
    have a0:upd F x=F:=by unfold upd;rw[hu];simp only;rw[if_neg l]
    refine i6 ?_;refine⟨(i+1,n),OS,rfl,⟨rfl,rfl,rfl,rfl,trivial⟩,c,OS,?_,Z⟩;rw[a9,s6,hF,a0];exact t
 rw[JG Oo]at hM;have b2:∀{u},Kp [A] w5 u ->Kp [] w u:=λk=>d0.trans k (λy hy hl=>by have:=V.size;simp at hy;omega);obtain⟨Dm,b3,a2,p⟩:=hM.keys (m:=17) Oo (λx v h=>(O x v h).1);have b4:(maxL a b).map Atom.var=gB (mapF (a++b)) (List.range 17):=xE _ _;have r:(gB (mapF (a++b)) (List.range 17)).length=(maxL a b).length:=by rw[<- b4];simp
 refine run (b3.len underlying182 _) ?_;rw[p,r];refine da (λP=>?_) (λP=>?_)
 ·exact T 5 _ (by rw[hE,if_pos Oo]) Oo (b2 E)
 have P:(maxL a b).length<=4:=Oo
 have b5:cB a b=0:=by rw[hE,if_neg Oo]
 have hR:dh a b=maxL a b:=by unfold dh;rw[if_pos b5]
 rw[b5,hR];refine ir (IL A w6) ?_;rintro e w7 ⟨rfl,rfl⟩;refine ir (IM b3 (by rw[p,r];unfold maxLen;omega) (by rw[p,r];omega)) ?_;rintro e w8 ⟨v8,ss,rfl,d8,Q,Y⟩;have b6:=d8.trans a2.symm;have d9:=b6.length_eq;rw[IR b6,d9]at Q;obtain⟨d',cs,rfl,e0⟩:=ints_at Q;rw[r];have H:Kp [] w6 w8:=(Kp.alloc _ _).tr Y;have b8:=b2 (E.tr H);have t:=hM.kp H Od;have e2:∀(j:Nat) (x:Atom),(maxL a b)[j]?=some x ->mapF (a++b) x.var=some x.add/\(gB (mapF (a++b)) (List.range 17))[j]?=some x.var:=λj x d=>by
  refine⟨?_,by rw[<- b4,JX,d];rfl⟩;have:=JQ d;unfold maxL at this;obtain⟨v,_,hv⟩:=List.mem_filterMap.1 this;cases h:mapF (a++b) v with
  |none=>rw[h]at hv;cases hv
  |some n=>
   rw[h]at hv;obtain rfl:=JB hv;exact h
 refine lp τok (σ:=Nat×Value) (λq=>[(6,.map (some A)),(11,q.2),(58,.slice d' (maxL a b).length cs),(59,.int .i64 (maxL a b).length),(60,.int .i64 q.1)])
  (λq w'=>q.1<=(maxL a b).length/\Own rAt 48 w8.heap.size w' q.2 ((maxL a b).take q.1)/\Kp [] w8 w') (λq=>(maxL a b).length-q.1) (0,.slice none 0 0) rfl ⟨rfl,rfl,rfl,rfl,rfl,trivial⟩ ⟨KV _,Own.nil _ _ (KJ _),Kp.refl _ _⟩ ?_
 rintro⟨j,v9⟩ w9 ⟨d,z,f⟩;simp only at d z;refine da (λl=>?_) (λl=>?_)
 ·have c:j<(maxL a b).length:=Oo
  obtain⟨x,hx,hd⟩:=ay c;obtain⟨b9,e3⟩:=e2 j x hx;obtain⟨g,rfl,f1,e4⟩:=e0 j x.var e3;have f':=O _ _ b9;have c0:I64 x.var:=by unfold I64;omega
  have e5:I64 x.add:=by unfold I64;omega
  refine ix j rfl c ?_;refine ld (e4.kp f Od).cell ?_;refine(t.kp f Od).look1 c0 ?_;rw[b9];refine fill [.int .i64 x.var,.int .i64 x.add] rfl ?_;refine iO λbz wz g0 e6 g6 a3=>?_;have K:((maxL a b).take j).length=j:=OK
  refine(z.kp a3).ap1 τok rfl rfl OO x [.int .i64 x.var,.int .i64 x.add] ⟨rfl,c0,e5⟩ (bZ e6) (by rw[K];omega) (by rw[K];unfold maxLen;omega) λe7 g7 c2 c3 _=>?_;refine i6 ?_;refine⟨(j+1,e7),OS,rfl,⟨rfl,rfl,rfl,rfl,rfl,trivial⟩,c,?_,(f.tr a3).own c3 (z.kp a3)⟩;rw[dA hx];exact c2
 ·rw[JG Oo]at z
  obtain⟨a1,c1,e1,g8⟩:=z.cap;obtain⟨R,S,rfl,e8⟩:=z.den Oo;injection e1 with _ _ e1
  exact⟨R,S,rfl,⟨e8.mono (New.up b8.size (Kp.refl _ _)),Oo⟩,b8.tr f⟩
def di(a:List Atom)(by':Int):Int:=if cF a 16=false then 19 else if by'<0 then 1 else if a.any (λx=>decide (1000<x.add+by'))then 6 else 0
def gC(a:List Atom)(by':Int):List Atom:=a.map λx=>⟨x.var,x.add+by'⟩
def fc(a:List Atom)(by':Int):List Atom:=if di a by'=0 then gC a by' else []
open Go.Wx Cd Tm Lv
theorem IW{p q:Nd}:(p.op=q.op/\p.a=q.a/\p.b=q.b)↔p=q:=by
 obtain⟨a,b,c⟩:=p;obtain⟨g,i,j⟩:=q;constructor
 ·rintro⟨d,e,f⟩
  simp only at d e f;subst d e f
  rfl
 ·intro h
  injection h with d e f
  exact⟨d,e,f⟩
instance ndDec:DecidableEq Nd:=λp q=>decidable_of_iff (p.op=q.op/\p.a=q.a/\p.b=q.b) IW
theorem CY(x y:Operand)(p q:Nd)(w:World):(do eqGuard .neq 42 x y (jd p) (jd q);binOp .neq 42 (jd p) (jd q):Sem Value).run prog w= .ok (.bool (!decide (p=q))) w:=by
 have d : (prog.fieldsOf 42).toList.map (λf => (f.name != "_", f.offset, f.type)) = [(true, 0, 3), (true, 1, 3), (true, 2, 3)] := by kernel_rfl
 have K:prog.underlying 42=some (.struct (prog.fieldsOf 42)):=OD
 have L:prog.eqGuardType prog.depth 42=false:=OD
 have z:prog.stoodInHeld 42=false:=OD
 simp only[Sem.run_bind,run_eqGuard_agg w .neq 42 x y _ _ L,Result.andThen_ok,run_neq_struct];rw[show (10000:Nat)=9999+1 from rfl,run_equalIn_struct w 9999 42 _ _ K z]
 generalize (prog.fieldsOf 42).toList=E at d
 have A:E.length=3:=by have:=congrArg List.length d;simpa using this
 match E,A,d with
 |[f,g,h],_,d=>
  simp only[List.map_cons,List.map_nil,List.cons.injEq,Prod.mk.injEq,bne_iff_ne,ne_eq,and_true]at d;obtain⟨⟨e,i,j⟩,⟨k,l,m⟩,n,o,r⟩:=d;have s:∀(a b:Int) (w:World),(Op.equalIn 9999 3 (.int .i64 a) (.int .i64 b)).run prog w= .ok (a==b) w:=λa b w=>by rw[show (9999:Nat)=9998+1 from rfl];exact run_equalIn_int w 9998 3 .i64 .i64 a b underlying3
  have t:∀(a b c:Value) (w:World),(part 3 #[a,b,c] 0).run prog w= .ok a w:=λa b c w=>by simp[part,isAgg,run_underlying underlying3]
  have u:∀(a b c:Value) (w:World),(part 3 #[a,b,c] 1).run prog w= .ok b w:=λa b c w=>by simp[part,isAgg,run_underlying underlying3]
  have v:∀(a b c:Value) (w:World),(part 3 #[a,b,c] 2).run prog w= .ok c w:=λa b c w=>by simp[part,isAgg,run_underlying underlying3]
  obtain⟨M,N,O⟩:=p;obtain⟨P,Q,R⟩:=q
  by_cases F:M=P
  ·subst F
   by_cases H:N=Q
   ·subst H
    by_cases I:O=R
    ·subst I
     simp[Op.eqFields,e,k,n,i,l,o,j,m,r,t,u,v,s]
    ·simp[Op.eqFields,e,k,n,i,l,o,j,m,r,t,u,v,s,I]
   ·simp[Op.eqFields,e,k,n,i,l,o,j,m,r,t,u,v,s,H]
  ·simp[Op.eqFields,e,k,n,i,l,o,j,m,r,t,u,v,s,F]
theorem CZ(x y:Operand)(p q:Nd)(w:World):(do eqGuard .eql 42 x y (jd p) (jd q);binOp .eql 42 (jd p) (jd q):Sem Value).run prog w= .ok (.bool (decide (p=q))) w:=by
 have d : (prog.fieldsOf 42).toList.map (λf => (f.name != "_", f.offset, f.type)) = [(true, 0, 3), (true, 1, 3), (true, 2, 3)] := by kernel_rfl
 have K:prog.underlying 42=some (.struct (prog.fieldsOf 42)):=OD
 have L:prog.eqGuardType prog.depth 42=false:=OD
 have z:prog.stoodInHeld 42=false:=OD
 simp only[Sem.run_bind,run_eqGuard_agg w .eql 42 x y _ _ L,Result.andThen_ok,run_eql_struct];rw[show (10000:Nat)=9999+1 from rfl,run_equalIn_struct w 9999 42 _ _ K z]
 generalize (prog.fieldsOf 42).toList=E at d
 have A:E.length=3:=by have:=congrArg List.length d;simpa using this
 match E,A,d with
 |[f,g,h],_,d=>
  simp only[List.map_cons,List.map_nil,List.cons.injEq,Prod.mk.injEq,bne_iff_ne,ne_eq,and_true]at d;obtain⟨⟨e,i,j⟩,⟨k,l,m⟩,n,o,r⟩:=d;have s:∀(a b:Int) (w:World),(Op.equalIn 9999 3 (.int .i64 a) (.int .i64 b)).run prog w= .ok (a==b) w:=λa b w=>by rw[show (9999:Nat)=9998+1 from rfl];exact run_equalIn_int w 9998 3 .i64 .i64 a b underlying3
  have t:∀(a b c:Value) (w:World),(part 3 #[a,b,c] 0).run prog w= .ok a w:=λa b c w=>by simp[part,isAgg,run_underlying underlying3]
  have u:∀(a b c:Value) (w:World),(part 3 #[a,b,c] 1).run prog w= .ok b w:=λa b c w=>by simp[part,isAgg,run_underlying underlying3]
  have v:∀(a b c:Value) (w:World),(part 3 #[a,b,c] 2).run prog w= .ok c w:=λa b c w=>by simp[part,isAgg,run_underlying underlying3]
  obtain⟨M,N,O⟩:=p;obtain⟨P,Q,R⟩:=q
  by_cases F:M=P
  ·subst F
   by_cases H:N=Q
   ·subst H
    by_cases I:O=R
    ·subst I
     simp[Op.eqFields,e,k,n,i,l,o,j,m,r,t,u,v,s]
    ·simp[Op.eqFields,e,k,n,i,l,o,j,m,r,t,u,v,s,I]
   ·simp[Op.eqFields,e,k,n,i,l,o,j,m,r,t,u,v,s,H]
  ·simp[Op.eqFields,e,k,n,i,l,o,j,m,r,t,u,v,s,F]
section
variable{C D:Mem}{w:World}
def bK(x:Tr):List Atom:=x.ks.map λk=>⟨k.n.a,k.n.b⟩
theorem C4{x:Tr}(p:Ok .tm x)(h2:x.n.op=2):row x=x.n::x.ks.map (·.n)/\x.ks.length<=4/\(x.ks.length:Int)=x.n.b/\∀k∈x.ks,k.n.op=3/\aw k.n=true:=by
 obtain⟨n,o⟩:=x;simp only[Tr.n,Tr.ks]at h2 ⊢;obtain⟨q,f,t⟩:=p.kids;obtain⟨r,_,_,e⟩:=eb q;rw[if_pos h2]at e;have i:(n.a=0 \/n.a=1)/\aE n.b 1 4=true:=by simpa[aw,h2]using r
 have:=dq.1 i.2;have c:∀(l:List Tr) (k:Nat),okL cnt nx l n .tm k ->∀y∈l,y.n.op=3/\aw y.n=true/\y.ks=[]:=by
  intro l
  induction l with
  |nil=>intro k _ y a;cases a
  |cons z l j=>
   intro k h y a;rcases List.mem_cons.1 a with rfl|a
   ·obtain⟨m,s⟩:=y
    have d:=h.1.1;rw[show nx Md.tm n k= .am by simp[nx,h2]]at d;simp only[cnt]at d;split at d
    ·rename_i g
     exact⟨g.1,g.2,List.length_eq_zero_iff.1 (JB d).symm⟩
    ·cases d
   ·exact j _ h.2 y a
 have b:=c o 0 f;refine⟨?_,Oo,Oo,λk e=>⟨(b k e).1,(b k e).2.1⟩⟩;simp only[row]
 congr 1
 have:∀(l:List Tr),(∀y∈l,y.ks=[]) ->rows l=l.map (·.n):=by
  intro l
  induction l with
  |nil=>intro _;rfl
  |cons y l j=>
   intro h;obtain⟨m,s⟩:=y;have:s=[]:=h (.mk m s) Od;subst this;simp only[rows,row,List.map_cons,Tr.n];rw[j λy a=>h y (by simp[a])]
   rfl
 exact this o λy a=>(b y a).2.2
def placesM(x:Tr):List Int:=x.ks.map (·.n.a)
end
def xG(C:Mem)(w:World)(bj:Nat)(B:aq)(c:Ctx)(n er:Int):Prop:=∃v1 v2 v3 v4,Bk w.heap bj [.int .i64 B.vars,v1,v2,.int .i64 B.nat,v3,v4,.int .i64 n,.int .i64 er] 241/\SV rOr C B.orders v1/\SV rEn C B.ents v2/\SV rPr C B.prims v3/\SV rBd C (c.map aA) v4
def gD(B:aq)(f g:Tr)(under:Bool):Bool:=decide (f.n.a=g.n.a) && (jf B.vars B.orders (bK f) (bK g) && (under||jf B.vars B.orders (bK g) (bK f)))
abbrev RcC:=Ctx ->Tr ->Tr ->Bool ->Nat ->Except Int (Bool×Nat)
def fP(m:Except Int (Bool×Nat))(k:Nat ->Except Int (Bool×Nat)):Except Int (Bool×Nat):=match m with
 | .error e=>.error e
 | .ok q=>if q.1=true then k q.2 else .ok (false,q.2)
def cX(rc:RcC)(cx:Ctx):List Tr ->List Tr ->Nat ->Except Int (Bool×Nat)
 |x::r,y::s,n=>fP (rc cx x y false n) (cX rc cx r s)
 |_,_,n=>.ok (true,n)
def bi(f:Tr):Ctx:=(List.range f.n.b.toNat).map λi=>(aH (kidD f (2*i)) i 0,none)
def dN(rc:RcC)(cx cx':Ctx):List Tr ->List Tr ->Nat ->Except Int (Bool×Nat)
 |x::a::r,y::b::s,n=>fP (rc cx x y false n) λn=>fP (rc cx' a b false n) (dN rc cx cx' r s)
 |_,_,n=>.ok (true,n)
def lD(rc:RcC)(cx:Ctx)(f g:Tr)(n:Nat):Except Int (Bool×Nat):=
 if placesM f=placesM g then dN rc cx (cx++bi f) (kidsT f) (kidsT g) n else .ok (false,n)
def iC(B:aq)(rc:RcC)(cx:Ctx)(f g:Tr)(under:Bool)(n:Nat):Except Int (Bool×Nat):=
 if f.n.op=2 then .ok (gD B f g under,n)
 else if f.n.op=4 then fP (rc cx (kidD f 0) (kidD g 0) false n) (rc (cx++[(kidD f 0,none)]) (kidD f 1) (kidD g 1) under)
 else if f.n.op=5 then fP (rc cx (kidD f 0) (kidD g 0) false n) (rc (cx++[(kidD f 0,none)]) (kidD f 1) (kidD g 1) false)
 else if f.n.op=12 then (if f.n=g.n then lD rc cx f g n else .ok (false,n))
 else if f.n=g.n then cX rc cx (kidsT f) (kidsT g) n else .ok (false,n)
def mF(B:aq)(rc:RcC)(cx:Ctx)(x y:Tr)(under:Bool)(n:Nat):Except Int (Bool×Nat):=
 if (headT x).n.op≠(headT y).n.op \/(argsT x).length≠(argsT y).length then .ok (false,n)
 else fP (iC B rc cx (headT x) (headT y) under n) (cX rc cx (argsT x) (argsT y))
def cT(B:aq):Nat ->RcC
 |0,_,_,_,_,_=>.error 10
 |g+1,cx,x,y,u,n=>if n=0 then .error 10 else if row x=row y then .ok (true,n-1)else if 256<cx.length then .error 5
  else match dC B cx x ((n-1:Nat):Int)with
   | .error e=>.error e
   | .ok p=>match dC B cx y (p.2:Int)with
    | .error e=>.error e
    | .ok q=>mF B (cT B g) cx p.1 q.1 u q.2
section
variable{B:aq}{cx:Ctx}
theorem oD':∀(g:Nat) (x:Tr) (room:Int) (n:Nat) (q:Tr×Nat),bY B cx g x room n= .ok q ->q.2<=n
 |0,x,room,n,q,h=>by cases h
 |g+1,x,room,n,q,h=>by
  simp only[bY]at h;have b:∀p,gZ B cx (bY B cx g) room p= .ok q ->q.2<=p.2:=λp h=>by
   unfold gZ at h;split at h
   ·split at h
    ·cases h
    ·cases c:gf B cx p.1 with
     |error e=>rw[c]at h;cases h
     |ok z=>
      rw[c]at h;simp only at h;split at h
      ·cases h
      ·have:=oD' g _ _ _ _ h
       omega
   ·injection h with h
    subst h;exact KJ _
  cases a:gY (bY B cx g) x room n with
  |error e=>rw[a]at h;cases h
  |ok p=>
   rw[a]at h;have d:=b p h;unfold gY at a;split at a
   ·injection a with a
    subst a;exact d
   ·split at a
    ·cases a
    ·rename_i f
     injection a with a
     subst a;have:=oD' g _ _ _ _ f;exact KQ d this
theorem qB{x:Tr}{n:Nat}{q:Tr×Nat}(h:dC B cx x (n:Int)= .ok q):q.2<=n:=by
 have:=oD' _ _ _ _ _ h;unfold bE at this;omega
def mG(rc:RcC):Prop:=∀cx x y u n q,rc cx x y u n= .ok q ->q.2<=n
theorem oT{m:Except Int (Bool×Nat)}{k:Nat ->Except Int (Bool×Nat)}{n:Nat}{q:Bool×Nat}(hm:∀q,m= .ok q ->q.2<=n)(b:∀i q,k i= .ok q ->q.2<=i)(h:fP m k= .ok q):q.2<=n:=by
 unfold fP at h;split at h
 ·cases h
 ·rename_i p
  have a:=hm p rfl;split at h
  ·exact KQ (b _ _ h) a
  ·injection h with h
   subst h;exact a
theorem xH{a:RcC}(hr:mG a):∀(xs ys:List Tr) (n:Nat) (q:Bool×Nat),cX a cx xs ys n= .ok q ->q.2<=n
 |x::r,y::s,n,q,h=>oT (λq=>hr _ _ _ _ _ q) (λi q=>xH hr r s i q) h
 |[],ys,n,q,h=>by simp only[cX,Except.ok.injEq]at h;subst h;exact KJ _
 |x::r,[],n,q,h=>by simp only[cX,Except.ok.injEq]at h;subst h;exact KJ _
theorem C5{d:RcC}(hr:mG d){c:Ctx}:∀(xs ys:List Tr) (n:Nat) (q:Bool×Nat),dN d cx c xs ys n= .ok q ->q.2<=n
 |x::a::r,y::b::s,n,q,h=>oT (λq=>hr _ _ _ _ _ q) (λi q h=>oT (λq=>hr _ _ _ _ _ q) (λi q=>C5 hr r s i q) h) h
 |[],ys,n,q,h=>by simp only[dN,Except.ok.injEq]at h;subst h;exact KJ _
 |[x],ys,n,q,h=>by simp only[dN,Except.ok.injEq]at h;subst h;exact KJ _
 |x::a::r,[],n,q,h=>by simp only[dN,Except.ok.injEq]at h;subst h;exact KJ _
 |x::a::r,[y],n,q,h=>by simp only[dN,Except.ok.injEq]at h;subst h;exact KJ _
theorem C6{a:RcC}(hr:mG a){f g:Tr}{u:Bool}{n:Nat}{q:Bool×Nat}(h:iC B a cx f g u n= .ok q):q.2<=n:=by
 unfold iC at h;split at h
 ·injection h with h;subst h;exact KJ _
 split at h
 ·exact oT (λq=>hr _ _ _ _ _ q) (λi q=>hr _ _ _ _ _ q) h
 split at h
 ·exact oT (λq=>hr _ _ _ _ _ q) (λi q=>hr _ _ _ _ _ q) h
 split at h
 ·split at h
  ·unfold lD at h
   split at h
   ·exact C5 hr _ _ _ _ h
   ·injection h with h;subst h;exact KJ _
  ·injection h with h;subst h;exact KJ _
 split at h
 ·exact xH hr _ _ _ _ h
 ·injection h with h;subst h;exact KJ _
theorem IX{a:RcC}(hr:mG a){f g:Tr}{u:Bool}{n:Nat}{q:Bool×Nat}(h:mF B a cx f g u n= .ok q):q.2<=n:=by
 unfold mF at h;split at h
 ·injection h with h;subst h;exact KJ _
 ·exact oT (λq=>C6 hr) (λi q=>xH hr _ _ _ _) h
theorem ku(B:aq):∀g,mG (cT B g)
 |0,cx,x,y,u,n,q,h=>by cases h
 |g+1,cx,x,y,u,n,q,h=>by
  simp only[cT]at h;split at h
  ·cases h
  split at h
  ·injection h with h;subst h;simp
  split at h
  ·cases h
  split at h
  ·cases h
  rename_i p b;split at h
  ·cases h
  rename_i c a;have h1:=qB b;have d:=qB a;have e:=IX (ku B g) h;omega
end
def xI(X:List Nat)(w:World)(bj:Nat)(B:aq)(cx:Ctx)(r:Except Int (Bool×Nat))(e:Ending)(w':World):Prop:=
 (match r with
  | .ok q=>e= .returned (.bool q.1)/\xG (Im X w') w' bj B cx q.2 0
  | .error er=>e= .returned (.bool false)/\er≠0/\∃m:Int,xG (Im X w') w' bj B cx m er)/\Kp [bj] w w'
def C7(B:aq)(g:Nat)(rc:RcC):Prop:=∀(X:List Nat) (w:World) (bj:Nat) (cx:Ctx) (x y:Tr) (u:Bool) (n:Nat) (vx vy:Value),(XL X w) ->bj∈X ->CxOk B cx ->cx.length<=260 ->xG (Im X w) w bj B cx n 0 ->
 Ft (QB B) (cx.length:Int) x ->Ft (QB B) (cx.length:Int) y ->n<=g ->n<=100000 ->TmV (Im X w) x vx ->TmV (Im X w) y vy ->
 CC 197 #[pt bj,vx,vy,.bool u] w (xI X w bj B cx (rc cx x y u n))
theorem CxOk.app{B:aq}{c mo:Ctx}(h:CxOk B c)(hm:∀(i:Nat) q,mo[i]?=some q ->Ft (QB B) ((c.length+i:Nat):Int) q.1/\∀x,q.2=some x ->Ft (QB B) ((c.length+i:Nat):Int) x):CxOk B (c++mo):=λi q a=>by
 by_cases b:i<c.length
 ·rw[List.getElem?_append_left b]at a
  exact h i q a
 ·rw[List.getElem?_append_right Oo]at a
  have:=hm _ q a
  rwa [show c.length+(i-c.length)=i by omega]at this
theorem ib{Q:Nd ->Prop}{N:Int}{x:Tr}(h:Ft Q N x)(a:x.n.op=12){i:Nat}(hi:i<x.n.b.toNat):
  (kidsT x)[2*i]?=some (kidD x (2*i))/\(kidsT x)[2*i+1]?=some (kidD x (2*i+1))/\Ft Q N (kidD x (2*i))/\Ft Q (N+x.n.b) (kidD x (2*i+1)):=by
 have j:=fK h.ok a;obtain⟨d,b⟩:=h.kidD (k:=2*i) Oo;obtain⟨e,c⟩:=h.kidD (k:=2*i+1) Oo;have f:kb x.n (2*i)=0:=by unfold kb;rw[if_pos a,if_neg Oo]
 have g:kb x.n (2*i+1)=x.n.b:=by unfold kb;rw[if_pos a,if_pos Oo]
 rw[f,Int.add_zero]at b;rw[g]at c;exact⟨d,e,b,c⟩
theorem xJ{f:Tr}{i:Nat}(hi:i<f.n.b.toNat):(bi f)[i]?=some (aH (kidD f (2*i)) i 0,none):=by
 unfold bi;rw[JX,List.getElem?_range hi]
 rfl
theorem oU(f:Tr):(bi f).length=f.n.b.toNat:=by simp[bi]
theorem nO{B:aq}{cx:Ctx}{f:Tr}(h:CxOk B cx)(k:cx.length<=90000)(e:Ft (QB B) (cx.length:Int) f)(a:f.n.op=12):CxOk B (cx++bi f):=by
 have l:=dM e.ok a;refine h.app λi q c=>?_;have d:=aI c;rw[oU]at d;rw[xJ d]at c;obtain rfl:=JB c;obtain⟨_,_,g,_⟩:=ib e a d;have:=g.lift (qk B) (b:=(i:Int)) Oo Oo Oo;exact⟨by simpa using this,λx j=>by cases j⟩
theorem xK{Q:Nd ->Prop}{N:Int}{x:Tr}(h:Ft Q N x)(h1:x.n.op≠4/\x.n.op≠5/\x.n.op≠7/\x.n.op≠12):∀y∈kidsT x,Ft Q N y:=by
 intro y a;obtain⟨i,b⟩:=JH a;obtain⟨n,c⟩:=x;have:=h.kid b;simp only[Tr.n]at h1;have e:kb n i=0:=by simp[kb,aY,h1]
 rwa [e,Int.add_zero]at this
section
variable{B:aq}{cx:Ctx}
theorem ql':∀(g:Nat) (x:Tr) (room:Int) (n:Nat) (q:Tr×Nat),bY B cx g x room n= .ok q ->cf B cx q.1=false
 |0,x,room,n,q,h=>by cases h
 |g+1,x,room,n,q,h=>by
  simp only[bY]at h;cases a:gY (bY B cx g) x room n with
  |error e=>rw[a]at h;cases h
  |ok p=>
   rw[a]at h;simp only at h;unfold gZ at h;split at h
   ·split at h
    ·cases h
    ·cases b:gf B cx p.1 with
     |error e=>rw[b]at h;cases h
     |ok z=>
      rw[b]at h;simp only at h;split at h
      ·cases h
      ·exact ql' g _ _ _ _ h
   ·rename_i hr
    injection h with h
    subst h
    simpa using hr
theorem tc(c:GoodB B)(a:CxOk B cx)(d:cx.length<=90000){x:Tr}{f:Int}{q:Tr×Nat}(b:Ft (QB B) (cx.length:Int) x)(h:dC B cx x f= .ok q):Ft (QB B) (cx.length:Int) q.1/\(headT q.1).n.op≠7:=by
 have i:=b.len;obtain⟨q1,e⟩:=q;refine⟨(oH c a d GW x 4096 _ q1 e b (by unfold len;omega) Oo h).1,λg=>?_⟩;have:=ql' _ _ _ _ _ h;unfold cf at this;simp[g]at this
end
section
variable{B:aq}
@[irreducible] def GC:Nat:=100000
theorem Da':100000<=GC:=by unfold GC;exact KJ _
def kw(B:aq)(cx:Ctx)(x y:Tr)(fuel:Int)(u:Bool):Except Int (Bool×Nat):=cT B GC cx x y u (bE fuel)
end
section
variable{C:Mem}{w:World}
theorem IY(i:Sub C w)(l:List Int)(a:Option Addr)(c:Nat)(hl:Sl ve' C a l)(h:l.length<=1000000):
  CC 212 #[.slice a l.length c] w (λe w'=>(∃v,e= .returned v/\Own ve' 230 w.heap.size w' v l)/\Kp [] w w'):=by
 refine oF func212 ?_;refine cO (args:=[_]) 8 [.tmp 2] τok func212 ?_;refine AG τok rfl ?_;cases a with
 |none=>
  obtain rfl:=hl.none_nil;exact⟨⟨_,rfl,Own.nil _ _ (KJ _)⟩,Kp.refl _ _⟩
 |some a=>
  refine fill [] rfl<|iO λn o j b k d=>?_;refine(Own.empty ve' b (lo:=w.heap.size) Oo).apF τok rfl rfl OO FH' (i.tr d) l hl (by simp only[JU];omega) (by simp only[JU,maxLen];omega) λm p f g _=>?_;rw[List.nil_append]at f;exact⟨⟨m,rfl,f⟩,d.own g (Own.empty ve' b (lo:=w.heap.size) Oo)⟩
def bP(m:List Int)(v:Int):Int:=if (m.length:Int)<=v then 0 else m.getD (m.length-1-v.toNat) 0
def iY(x:Tr)(m:List Int):Bool:=decide ((headT x).n.op=1) && decide (bP m (headT x).n.a=2)
end
abbrev RcF:=Tr ->List Int ->Bool
def fQ(rc:RcF):Nat ->Tr ->List Int ->Bool
 |0,t,m=>rc t m
 |n+1,t,m=>if t.n.op=5 then rc (kidD t 0) m && fQ rc n (kidD t 1) (m++[2])else rc t m
def nP(s:Tr)(m:List Int):Bool:=
 let v:=if (headT s).n.op=1 then bP m (headT s).n.a else 0
 decide (v=2)||(decide (v=1) && decide ((argsT s).length=0))
def lE(B:aq)(rc:RcF)(a:Int)(down:Bool)(m:List Int):Nat ->List Tr ->Bool
 |_,[]=>true
 |k,t::r=>fQ rc (if down && decide (k<(aP B a).ctors.length)then ((aP B a).ctors.getD k default).args.length else 0) t m && lE B rc a down m (k+1) r
def kx(B:aq)(rc:RcF)(f:Tr)(m:List Int):Bool:=
 (rc (kidD f 0) m && rc (kidD f 1) m) && lE B rc f.n.a (nP (kidD f 1) m) m 0 ((kidsT f).drop 2)
def ky(rc:RcF)(m m':List Int):List Tr ->Bool
 |t::b::r=>(rc t m && rc b m') && ky rc m m' r
 |_=>true
def ec(B:aq)(pl:List Int):Nat ->RcF
 |0,_,_=>false
 |g+1,x,m=>
  let f:=headT x
  (argsT x).all (λy=>ec B pl g y m) &&
  (if f.n.op=1 then (if bP m f.n.a<100 then true else decide (pl.getD (bP m f.n.a-100).toNat 0<(argsT x).length) && iY (eI x (pl.getD (bP m f.n.a-100).toNat 0)) m)
  else if f.n.op=11 then kx B (ec B pl g) f m
  else if f.n.op=4 \/f.n.op=5 then ec B pl g (kidD f 0) m && ec B pl g (kidD f 1) (m++[0])
  else if f.n.op=7 then (ec B pl g (kidD f 0) m && ec B pl g (kidD f 1) m) && ec B pl g (kidD f 2) (m++[0])
  else if f.n.op=12 then ky (ec B pl g) m (m++List.replicate f.n.b.toNat 0) (kidsT f)
  else true)
def Mk(pl m:List Int):Prop:=∀v∈m,v=0 \/v=1 \/v=2 \/∃j:Nat,j<pl.length/\v=100+j
theorem Mk.snoc{pl m:List Int}(h:Mk pl m){v:Int}(b:v=0 \/v=1 \/v=2):Mk pl (m++[v]):=λu a=>by
 rcases List.mem_append.1 a with a|a
 ·exact h u a
 ·obtain rfl:u=v:=by simpa using a
  rcases b with h|h|h
  ·exact .inl h
  ·exact .inr (.inl h)
  ·exact .inr (.inr (.inl h))
theorem Mk.zeros{pl m:List Int}(h:Mk pl m)(k:Nat):Mk pl (m++List.replicate k 0):=λu a=>by
 rcases List.mem_append.1 a with a|a
 ·exact h u a
 ·exact .inl (List.mem_replicate.1 a).2
theorem Mk.of{pl m:List Int}(h:Mk pl m){v:Int}(b:0<=v):bP m v<100 \/∃j:Nat,j<pl.length/\bP m v=100+j:=by
 unfold bP;split
 ·left;omega
 ·rename_i g
  obtain⟨x,a,_⟩:=ay (l:=m) (k:=m.length-1-v.toNat);rw[List.getD_eq_getElem?_getD,a];rcases h x (JQ a)with h|h|h|h
  ·left;simp only[Option.getD_some];omega
  ·left;simp only[Option.getD_some];omega
  ·left;simp only[Option.getD_some];omega
  ·exact .inr h
def IZ(C:Mem)(B:aq)(pl:List Int)(v:Value):Prop:=∃v1 v2 v3 v4,v= .agg #[.int .i64 B.vars,v1,v2,.int .i64 B.nat,v3,v4]/\SV rOr C B.orders v1/\SV rEn C B.ents v2/\SV rPr C B.prims v3/\SV ve' C pl v4
def xL(B:aq)(pl:List Int)(g:Nat)(rc:RcF):Prop:=∀(C:Mem) (w:World) (N:Int) (x:Tr) (m:List Int) (lv vx vm:Value),Sub C w ->IZ C B pl lv ->Ft (QB B) N x ->Mk pl m ->m.length+4*(row x).length<=100000 ->(row x).length<=g ->TmV C x vx ->SV ve' C m vm ->
 CC 213 #[lv,vx,vm] w (λe w'=>e= .returned (.bool (rc x m))/\Kp [] w w')
theorem C8{x:Tr}(f:Ok .tm x)(a:x.n.op=11){k:Nat}(h:k<x.ks.length):x.ks[k]?=some (kidD x k)/\Ok .tm (kidD x k)/\row x=(x.n::rows (x.ks.take k))++(row (kidD x k)++rows (x.ks.drop (k+1)))/\(rows (x.ks.take (k+1))).length=(rows (x.ks.take k)).length+(row (kidD x k)).length:=by
 obtain⟨c,_⟩:=gd f a;obtain⟨y,b,_⟩:=ay h;have e:kidD x k=y:=by simp[kidD,c,b]
 rw[e];refine⟨b,?_,HS b,?_⟩
 ·obtain⟨n,g⟩:=x
  obtain⟨l,d,i⟩:=f.kids;refine⟨?_,dE' g k y i b⟩;have:=iU g 0 k y d b;have a:n.op=11:=a;have j:nx Md.tm n (0+k)= .tm:=by simp[nx,a]
  rwa [j]at this
 ·rw[dA b,dc']
  simp[rows]
end Go.Proofs.YtjnjbghlemiklaaGreat
