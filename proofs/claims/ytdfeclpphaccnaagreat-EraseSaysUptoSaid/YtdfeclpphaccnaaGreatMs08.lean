import Derived.Test.YtdfeclpphaccnaaGreatMs07
import Derived.Maps.OwnSet
import Derived.Maps.Range
import Derived.Lib.AppendZerosOnto
import Derived.Laws.StructEq
import Derived.ArgAppend
set_option linter.all false
set_option maxHeartbeats 4000000
open Go.Proofs Go.Proofs.Tryz Go.Wx Lv
namespace Go.Q
def kV(f:Int ->Option Int)(k v:Int):Int ->Option Int:=λx=>if x=k then some v else f x
def upd(f:Int ->Option Int)(x:Atom):Int ->Option Int:=match f x.var with
 |none=>kV f x.var x.add
 |some v=>if v<x.add then kV f x.var x.add else f
def mapF(l:List Atom):Int ->Option Int:=l.foldl upd (λ_=>none)
theorem vw(l:List Atom)(x:Atom):mapF (l++[x])=upd (mapF l) x:=by simp[mapF]
theorem z7{f:Int ->Option Int}{x:Atom}{k:Int}(h:k≠x.var):upd f x k=f k:=by
 unfold upd;cases a:f x.var with
 |none=>simp[kV,h]
 |some v=>
  simp only;split
  ·simp[kV,h]
  ·rfl
theorem vA(f:Int ->Option Int)(x:Atom):upd f x x.var=some (match f x.var with|none=>x.add|some v=>if v<x.add then x.add else v):=by
 unfold upd;cases a:f x.var with
 |none=>simp[kV]
 |some v=>
  simp only;split
  ·simp[kV]
  ·exact a
theorem fold_from{k v:Int}:∀(l:List Atom) (f:Int ->Option Int),l.foldl upd f k=some v ->f k=some v \/∃y∈l,y.var=k/\y.add=v
 |[],f,h=>.inl h
 |x::l,f,h=>by
  rcases fold_from l (upd f x) h with h1|⟨y,c,h1⟩
  ·by_cases a:k=x.var
   ·subst a
    rw[vA]at h1;cases b:f x.var with
    |none=>rw[b]at h1;simp at h1;exact .inr ⟨x,Ud,rfl,h1⟩
    |some u=>
     rw[b]at h1;simp only at h1;split at h1
     ·exact .inr ⟨x,Ud,rfl,by simpa using h1⟩
     ·exact .inl (by simpa using h1)
   ·rw[z7 a]at h1
    exact .inl h1
  ·exact .inr ⟨y,by simp[c],h1⟩
theorem Fi{k:Int}:∀(l:List Atom) (f:Int ->Option Int) (u:Int),f k=some u ->∃v,l.foldl upd f k=some v/\u<=v
 |[],f,u,h=>⟨u,h,Int.le_refl _⟩
 |x::l,f,u,h=>by
  have:∃a,upd f x k=some a/\u<=a:=by
   by_cases b:k=x.var
   ·subst b
    rw[vA,h];simp only;split
    ·exact⟨x.add,rfl,Uo⟩
    ·exact⟨u,rfl,Int.le_refl _⟩
   ·exact⟨u,by rw[z7 b];exact h,Int.le_refl _⟩
  obtain⟨a,c,e⟩:=this;obtain⟨v,d,g⟩:=Fi l (upd f x) a c;exact⟨v,d,Uo⟩
theorem qT':∀(l:List Atom) (f:Int ->Option Int) (y:Atom),y∈l ->∃v,l.foldl upd f y.var=some v/\y.add<=v
 |x::l,f,y,h=>by
  rcases List.mem_cons.1 h with rfl|h
  ·obtain⟨v,h1,h2⟩:=Fi (k:=y.var) l (upd f y) _ (vA f y)
   refine⟨v,h1,?_⟩;cases a:f y.var with
   |none=>rw[a]at h2;exact h2
   |some u=>
    rw[a]at h2;simp only at h2;split at h2<;>omega
  ·exact qT' l (upd f x) y h
theorem vB{l:List Atom}{k v:Int}(h:mapF l k=some v):∃y∈l,y.var=k/\y.add=v:=by
 rcases fold_from l _ h with h|h
 ·cases h
 ·exact h
theorem Mc{l:List Atom}{y:Atom}(h:y∈l):∃v,mapF l y.var=some v/\y.add<=v:=qT' l _ y h
theorem Me{l:List Atom}{k:Int}(h:∀y∈l,y.var≠k):mapF l k=none:=by
 cases a:mapF l k with
 |none=>rfl
 |some v=>obtain⟨y,b,e,_⟩:=vB a;exact absurd e (h y b)
theorem Fj{vars:Int}:∀{l:List Atom} {a:Int},fX vars l a=true ->(∀x∈l,a<x.var)/\l.Pairwise (λx y=>x.var<y.var)
 |[],_,_=>⟨Ud,List.Pairwise.nil⟩
 |x::l,a,h=>by
  simp only[fX]at h;split at h
  ·cases h
  rename_i c;obtain⟨h1,h2⟩:=Fj h;refine⟨λy b=>?_,List.pairwise_cons.2 ⟨λy b=>h1 y b,h2⟩⟩;rcases List.mem_cons.1 b with rfl|b
  ·omega
  ·have:=h1 y b
   omega
theorem z8{l:List Atom}{vars:Int}(h:cN l vars=true):l.Pairwise (λx y=>x.var<y.var)/\1<=l.length:=by
 unfold cN at h;split at h
 ·cases h
 ·exact⟨(Fj h).2,Uo⟩
def iA(f:Int ->Option Int)(r:List Nat):List Int:=(r.filter λ(v:Nat)=>(f v).isSome).map λ(v:Nat)=>(v:Int)
def maxL(a b:List Atom):List Atom:=(List.range 17).filterMap λ(v:Nat)=>(mapF (a++b) v).map λn=>⟨(v:Int),n⟩
theorem z9(f:Int ->Option Int):∀r:List Nat,(r.filterMap λ(v:Nat)=>(f v).map λn=>(⟨(v:Int),n⟩:Atom)).map Atom.var=iA f r
 |[]=>rfl
 |v::r=>by
  have a:=z9 f r;unfold iA at a ⊢;rw[List.filterMap_cons];cases h:f v with
  |none=>simp[h];simpa using a
  |some n=>simp[h];simpa using a
def cK(a b:List Atom):Int:=if cN a 16=false \/cN b 16=false then 19 else if 4<(maxL a b).length then 5 else 0
def dx(a b:List Atom):List Atom:=if cK a b=0 then maxL a b else []
theorem Aa(f:Int ->Option Int)(n:Nat):(iA f (List.range n)).Pairwise (· < ·):=by
 unfold iA;refine List.pairwise_map.2 (List.Pairwise.imp (R:=(· < ·)) (λh=>Uo) ((List.pairwise_lt_range (n:=n)).filter _))
theorem Mf{f:Int ->Option Int}{n:Nat}(a:∀x v,f x=some v ->0<=x/\x<n)(x:Int):x∈iA f (List.range n)↔(f x).isSome=true:=by
 unfold iA;simp only[List.mem_map,List.mem_filter,List.mem_range];constructor
 ·rintro⟨v,⟨d,b⟩,rfl⟩
  exact b
 ·intro h
  obtain⟨v,c⟩:=Option.isSome_iff_exists.1 h;have:=a x v c;exact⟨x.toNat,⟨Uo,by rw[Int.toNat_of_nonneg this.1];exact h⟩,Int.toNat_of_nonneg this.1⟩
theorem vC{x:Int}(h:I64 x):(Lit.int .i64 x).wf=true:=by
 unfold I64 at h;simp[Lit.wf,IntKind.min,IntKind.max,IntKind.signed,IntKind.bits];omega
def MV(w:World)(b:Nat)(f:Int ->Option Int)(n:Nat):Prop:=∃D:DataW Unit,w.ownsMap prog 3 (plainElem prog 3) b n D/\
 ∀x,I64 x ->Maps.has D (.int .i64 x)=(f x).isSome/\D.atKey (.int .i64 x) (.lit (.int .i64 0))= .lit (.int .i64 ((f x).getD 0))
theorem MV.kp{w w':World}{b n:Nat}{f:Int ->Option Int}{X:List Nat}(h:MV w b f n)(k:Kp X w w')(hb:b ∉ X):MV w' b f n:=by
 obtain⟨D,d,e⟩:=h;have g:=d.lt;obtain⟨i,a,c,Ft,j,l⟩:=d;exact⟨D,⟨i,a,by rw[k.block b g hb];exact c,Ft,j,l⟩,e⟩
theorem MV.lt{w:World}{b n:Nat}{f:Int ->Option Int}(h:MV w b f n):b<w.heap.size:=by
 obtain⟨D,a,_⟩:=h;exact a.lt
theorem MV.made{w:World}{k:Value ->World ->Prop}(a:∀b w',b=w.heap.size ->MV w' b (λ_=>none) 0 ->w'.heap.size=b+1 ->Kp [] w w' ->k (.map (some b)) w'):EvRun prog (Instr.makeMap 284 none) w k:=by
 refine run (show (Instr.makeMap 284 none).run prog w= .ok (.map (some w.heap.size)) (w.alloc (.map #[] 0))from rfl) (a _ _ rfl ⟨.map [],World.ownsMap_made w _ _ _,λx _=>⟨rfl,rfl⟩⟩ Ud (Kp.alloc _ _))
theorem MV.look{w:World}{b n:Nat}{f:Int ->Option Int}(h:MV w b f n){x:Int}(e:I64 x){k:Value ->World ->Prop}(g:k (.tuple #[.int .i64 ((f x).getD 0),.bool (f x).isSome]) w):EvRun prog (Instr.lookup 284 (.map (some b)) (.int .i64 x) true) w k:=by
 obtain⟨D,i,j⟩:=h;obtain⟨v,p,a,l⟩:=i.look_ok (Maps.int_keyed underlying3) underlying284 (Tryz.zeroValue3 w) (plainElem_int underlying3 UO) (Maps.keyOf_int_mk underlying3 (vC e));obtain⟨c,rfl,d,_⟩:=plainElem_int_inv underlying3 l;obtain⟨m,o⟩:=j x e;rw[o]at d;simp at d;rw[m]at a;rw[<- d.1]at a;exact run a g
theorem MV.look1{w:World}{b n:Nat}{f:Int ->Option Int}(h:MV w b f n){x:Int}(d:I64 x){k:Value ->World ->Prop}(g:k (.int .i64 ((f x).getD 0)) w):EvRun prog (Instr.lookup 284 (.map (some b)) (.int .i64 x) false) w k:=by
 obtain⟨D,i,j⟩:=h;obtain⟨c,e,a,_⟩:=i.lookup_int (Maps.int_keyed underlying3) underlying284 underlying3 (Tryz.zeroValue3 w) (Maps.keyOf_int_mk underlying3 (vC d));rw[(j x d).2]at a;simp at a;rw[<- a]at e;exact run e g
theorem MV.put{w:World}{b n:Nat}{f:Int ->Option Int}(h:MV w b f n)(q:n<1000000){x v:Int}(d:I64 x)(g:I64 v){k:World ->Prop}(i:∀w',MV w' b (kV f x v) (n+1) ->Kp [b] w w' ->k w'):EvRunU prog (Instr.mapUpdate 284 (.map (some b)) (.int .i64 x) (.int .i64 v)) w k:=by
 obtain⟨D,c,j⟩:=h;obtain⟨w',l,m,o⟩:=c.update (Maps.int_keyed underlying3) underlying284 (by unfold maxLen;omega) (Maps.keyOf_int_mk underlying3 (vC d)) (plainElem_int underlying3 (vC g));refine tS l (i w' ⟨_,m,λy p=>?_⟩ (by simpa using ru o))
 by_cases e:y=x
 ·subst e
  rw[Maps.has_put_same c.isMap (by trivial),Maps.atKey_put_same c.isMap (by trivial)];simp[kV]
 ·have a:(Lit.int .i64 y)≠ .int .i64 x:=by simpa using e
  rw[Maps.has_put_other a,Maps.atKey_put_other a];simp only[kV,KY e];exact j y p
theorem MV.keys{w:World}{b n:Nat}{f:Int ->Option Int}{m:Nat}(h:MV w b f n)(hm:m<=1000)(r:∀x v,f x=some v ->0<=x/\x<m):
  ∃D:DataW Unit,w.ownsMap prog 3 (plainElem prog 3) b n D/\(iA f (List.range m)).Perm (intKeys D)/\Maps.size D=(iA f (List.range m)).length:=by
 obtain⟨D,k,s⟩:=h;obtain⟨t,d,l,_⟩:=k.entries (Maps.int_keyed underlying3);obtain⟨o,e,g⟩:=k.keysOf;obtain rfl:t=o:=by rw[d]at e;simpa using e
 have q:(iA f (List.range m)).Nodup:=(Aa f m).imp (λh=>Uo);have c:(iA f (List.range m)).Perm (intKeys D):=by
  rw[d];refine perm_intKeys l (λp c=>?_) q λx=>?_
  ·obtain⟨v,i⟩:=g p c
   obtain⟨x,_,j,_⟩:=Maps.keyOf_i64 underlying3 i;exact⟨x,j⟩
  ·rw[Mf r x,<- d]
   by_cases j:I64 x
   ·rw[(s x j).1]
   ·constructor
    ·intro a
     obtain⟨v,i⟩:=Option.isSome_iff_exists.1 a;have:=r x v i;exact absurd (by unfold I64;omega) j
    ·intro a
     exfalso;rw[d,Maps.has_eq,List.any_eq_true]at a;obtain⟨p,c,a⟩:=a;obtain⟨v,i⟩:=g p c;obtain⟨y,_,u,z⟩:=Maps.keyOf_i64 underlying3 i;rw[u]at a;have:y=x:=by simpa[Lit.sameKey]using a
     subst this;apply j;unfold I64;simp[Lit.wf,IntKind.min,IntKind.max,IntKind.signed,IntKind.bits]at z;omega
 refine⟨D,k,c,?_⟩;rw[c.length_eq,d];simp[Maps.size_eq,intKeys]
theorem Mg{f:Int ->Option Int}{m:Nat}{a:List Int}(h:a.Perm (iA f (List.range m))):a.mergeSort (λx y=>decide (x<=y))=iA f (List.range m):=by
 have e:=mergeSort_of_perm_i h;unfold leI at e;rw[e];refine List.mergeSort_of_pairwise (List.Pairwise.imp (λh=>Uk) (Aa f m))
def rAt:Rd Atom where
 sz:=2
 den _ cs x:=cs=[.int .i64 x.var,.int .i64 x.add]/\I64 x.var/\I64 x.add
 len:=by rintro _ cs x ⟨rfl,_⟩;rfl
 mono:=by rintro _ _ cs x _ h;exact h
 one:=by rintro _ cs x ⟨rfl,_⟩ u hu;simp at hu;rcases hu with rfl|rfl<;>rfl
theorem Fk{C:Mem}{a:Option Addr}{l:List Atom}(h:Sl rAt C a l){i:Nat}{x:Atom}(hi:l[i]?=some x):∃b o,a=some ⟨b,o,none⟩/\C b (o+i*2) (.int .i64 x.var)/\C b (o+i*2+1) (.int .i64 x.add)/\I64 x.var/\I64 x.add:=by
 obtain⟨b,o,d,e⟩:=h.at (aM hi)
 obtain⟨j,⟨rfl,f,g⟩,c⟩:=e i x hi;exact⟨b,o,d,c 0 _ rfl,c 1 _ rfl,f,g⟩
theorem Sl.atoms{C:Mem}{w:World}{a:Option Addr}{l:List Atom}(h:Sl rAt C a l)(g:Sub C w):EC w.heap.size w.heap a l:=by
 refine⟨?_,λx m=>?_⟩
 ·rcases h.2 with c|⟨b,o,n,p⟩
  ·exact .inl c
  ·rcases Nat.eq_zero_or_pos l.length with c|c
   ·exact .inl c
   have d:∀i j,i<l.length ->j<2 ->Cl w.heap b (o+i*2+j) (.int .i64 (if j=0 then (l.getD i default).var else (l.getD i default).add)):=λi j f q=>by
    obtain⟨t,⟨rfl,_⟩,k⟩:=p i l[i] Ud;have e:l.getD i default=l[i]:=by simp[f]
    rw[e]
    match j,q with
    |0,_=>exact g _ _ _ (k 0 _ rfl)
    |1,_=>exact g _ _ _ (k 1 _ rfl)
   exact .inr ⟨b,o,n,(d 0 0 c Uo).lt,d⟩
 ·obtain⟨i,f⟩:=JH m
  obtain⟨_,_,_,_,_,r,s⟩:=Fk h f;exact⟨r,s⟩
theorem ES':∀(C C':Mem) (cs:List Value) (x:Atom),rAt.den C cs x ->rAt.den C' cs x:=λ_ _ _ _ h=>h
theorem Mh(n:Nat)(a:0<n)(b:n<=1000000)(w:World):
  CC 243 #[.slice none 0 0,.int .i64 (n:Int)] w (λe w'=>∃v,e= .returned v/\Own rAt 220 w.heap.size w' v []/\Kp [] w w'):=by
 refine oF func243 ?_;refine cO (args:=[_,_]) 27 [.tmp 4] τok func243 ?_;refine mX rfl<|i6 ?_;refine i6 ?_;refine dm (λg=>?_) (λg=>?_);rotate_left
 ·exact absurd Uo g
 refine mX rfl<|nL τok rfl 0 (.slice none 0 0) rfl (KJ _) rfl ?_;have e:((n:Int)-((0:Nat)-(0:Nat):Int))=(n:Int):=Uo
 rw[e];refine uK (R:=rAt) rfl rfl UO rfl UO n a b λB G f h i c d=>?_;exact nL τok rfl 0 _ rfl (KV _) oP<|⟨_,rfl,c,d⟩
theorem Mi{D:Mem}{w:World}(p:Sub D w)(ls:List (List Atom))(a:Option Addr)(cap:Nat)(hl:Sl (tT rAt) D a ls)(z:ls.length<=1000)(h:(ls.map List.length).sum<=1000000)(i:0<(ls.map List.length).sum):
  CC 226 #[.slice a ls.length cap] w (λe w'=>∃v,e= .returned v/\Own rAt 220 w.heap.size w' v ls.flatten/\Kp [] w w'):=by
 refine oF func226 ?_;refine cO (args:=[_]) 36 [.tmp 2] τok func226 ?_;have E:=p.lt;have f:∀k,((ls.take k).map List.length).sum+((ls.drop k).map List.length).sum=(ls.map List.length).sum:=λk=>by
  rw[<- List.sum_append,<- KB,List.take_append_drop]
 refine lp τok (σ:=Nat) (λk=>[(0,.slice a ls.length cap),(3,.int .i64 (((ls.take k).map List.length).sum:Nat)),(9,.slice a ls.length cap),(10,.int .i64 ls.length),(11,.int .i64 k)]) (λk w'=>k<=ls.length/\w'=w) (λk=>ls.length-k) 0 rfl
  ⟨rfl,rfl,rfl,rfl,rfl,trivial⟩ ⟨KV _,rfl⟩ ?_
 rintro k s ⟨A,rfl⟩;refine dm (λF=>?_) (λF=>?_)
 ·have c:k<ls.length:=Uo
  obtain⟨x,j,H⟩:=ay c;have r:((ls.take (k+1)).map List.length).sum=((ls.take k).map List.length).sum+x.length:=by rw[dB j];simp
  have I:=f (k+1);obtain⟨b,o,rfl,K,cx,d,l⟩:=hl.sl j;refine ix k rfl c<|Cx p d<|i6 ?_;refine i6<|⟨k+1,Uo,rfl,⟨rfl,?_,rfl,rfl,rfl,trivial⟩,c,rfl⟩;rw[r]
  rfl
 have L:ls.take k=ls:=JG Uo;rw[L];refine jg (Mh _ i h s) ?_;rintro e P ⟨M,rfl,m,t⟩;refine lp τok (σ:=Nat×Value) (λq=>[(6,q.2),(25,.slice a ls.length cap),(26,.int .i64 ls.length),(27,.int .i64 q.1)]) (λq w'=>q.1<=ls.length/\Own rAt 220 s.heap.size w' q.2 (ls.take q.1).flatten/\Kp [] s w') (λq=>ls.length-q.1) (0,M) rfl
  ⟨rfl,rfl,rfl,rfl,trivial⟩ ⟨KV _,by simpa using m,t⟩ ?_
 clear m
 rintro⟨k,v⟩ R ⟨A,n,g⟩;simp only at A n;refine dm (λN=>?_) (λN=>?_)
 ·have c:k<ls.length:=Uo
  obtain⟨x,j,H⟩:=ay c;have r:(ls.take (k+1)).flatten=(ls.take k).flatten++x:=by rw[dB j];simp
  have I:=f (k+1);have S:((ls.take (k+1)).map List.length).sum=(ls.take k).flatten.length+x.length:=by rw[<- List.length_flatten,r];simp
  obtain⟨b,o,rfl,K,cx,d,l⟩:=hl.sl j;refine ix k rfl c<|Cx (p.tr g) d<|n.apF τok rfl rfl UO ES' (p.tr g) x l Uo (by unfold maxLen;omega) λO T u y _=>?_;refine i6<|⟨(k+1,O),Us,rfl,⟨rfl,rfl,rfl,rfl,trivial⟩,c,?_,g.own y n⟩;rw[r];exact u
 ·rw[JG Uo]at n
  exact⟨v,rfl,n,g⟩
theorem Mj{a b:List Atom}(ha:cN a 16=true)(hb:cN b 16=true):∀x v,mapF (a++b) x=some v ->(0<=x/\x<(17:Nat))/\0<=v/\v<=1000:=λx v h=>by
 obtain⟨y,c,rfl,rfl⟩:=vB h;rcases List.mem_append.1 c with c|c
 ·have:=(j7 ha).2 y c;omega
 ·have:=(j7 hb).2 y c;omega
theorem ints_at{w:World}{lo:Nat}{v:Value}{l:List Int}(h:w.ownsRow lo 3 1 v l.length (l.map (Value.int .i64))):∃a cap,v= .slice a l.length cap/\∀i x,l[i]?=some x ->∃g,a=some ⟨g,0,none⟩/\lo<=g/\Cl w.heap g (0+i*1) (.int .i64 x):=by
 rcases h.2 with ⟨rfl,e⟩|⟨g,cap,b,rfl,f,j,n,o,p,k⟩
 ·exact⟨none,0,by rw[e],λi x c=>by have:=aM c;omega⟩
 ·refine⟨_,cap,rfl,λi x c=>⟨g,rfl,f,b,3,(0,0),j,?_⟩⟩
  have m:=aM c;have d:(b.toList.take (l.length*1))[i]?=(l.map (Value.int .i64))[i]?:=by rw[k]
  rw[List.getElem?_take_of_lt Uo]at d;simp only[JX,c,Option.map_some]at d;rw[KW,Nat.mul_one]
  simpa using d
theorem Ml{C:Mem}{w:World}(hS:Sub C w)(a b:List Atom)(aa ab:Option Addr)(ca cb:Nat)(ha:Sl rAt C aa a)(hb:Sl rAt C ab b):
  CC 195 #[.slice aa a.length ca,.slice ab b.length cb] w (λe w'=>∃S T,e= .returned (.tuple #[.slice S (dx a b).length T,.int .i64 (cK a b)])/\(Sl rAt (New w.heap.size w') S (dx a b)/\(dx a b).length<=T)/\Kp [] w w'):=by
 refine oF func195 ?_;refine cO (args:=[_,_]) 74 [.tmp 4,.tmp 5] τok func195 ?_;have U:∀e w',cK a b=e ->e≠0 ->Kp [] w w' ->∃S T,Ending.returned (Go.Wx.one [.slice none 0 0,.int .i64 e])= .returned (.tuple #[.slice S (dx a b).length T,.int .i64 (cK a b)])/\(Sl rAt (New w.heap.size w') S (dx a b)/\(dx a b).length<=T)/\Kp [] w w':=λe w' he h0 hk=>by
  have hr:dx a b=[]:=by unfold dx;rw[KY (by rw[he];exact h0)]
  rw[hr,he];exact⟨none,0,rfl,⟨Sl.nil _ _ _,KV _⟩,hk⟩
 refine jg (ED a aa ca 16 w (Sl.atoms ha hS)) ?_;rintro e w1 ⟨rfl,V⟩;refine br (λM=>?_) (λM=>?_)
 ·exact U 19 _ (by unfold cK;rw[KX (.inl (by simpa using M))]) (by omega) V
 have M:cN a 16=true:=by simpa using M
 refine jg (ED b ab cb 16 w1 (Sl.atoms hb (hS.tr V))) ?_;rintro e w2 ⟨rfl,c5⟩;have W:=V.tr c5;refine br (λN=>?_) (λN=>?_)
 ·exact U 19 _ (by unfold cK;rw[KX (.inr (by simpa using N))]) (by omega) W
 have N:cN b 16=true:=by simpa using N
 have hE:cK a b=if 4<(maxL a b).length then 5 else 0:=by unfold cK;rw[KY (by simp[M,N])]
 have h9:=(j7 M).1;have h':=(j7 N).1;have h5:=(z8 M).2;have h6:=(z8 N).2;have O:=Mj M N;refine MV.made λA w3 i0 c6 i1 c7=>?_;have c8:=W.tr c7;refine fill [.slice aa a.length ca,.slice ab b.length cb] rfl ?_;refine jC λbx w4 i2 c9 i3 a5=>?_;have a6:=c8.tr a5;obtain⟨C1,L⟩:∃C1:Mem,C1=λb' o v=>C b' o v \/(b'=bx/\[Value.slice aa a.length ca,.slice ab b.length cb][o]?=some v):=⟨_,rfl⟩
 have c':Sub C1 w4:=by
  rw[L];rintro b' o v (h|⟨rfl,h⟩)
  ·exact(hS.tr a6) _ _ _ h
  ·exact c9.cl h
 have a7:∀b o v,C b o v ->C1 b o v:=by rw[L];exact λb o v h=>Or.inl h
 have d':Sl (tT rAt) C1 (some ⟨bx,0,none⟩) [a,b]:=⟨by simp,.inr ⟨bx,0,rfl,λi x X=>by
  match i with
  |0=>
   simp at X;subst X;exact⟨_,⟨aa,ca,rfl,ha.mono a7⟩,λj v d=>by
    match j with
    |0=>simp at d;subst d;rw[L];exact Or.inr ⟨rfl,rfl⟩
    |j+1=>simp at d⟩
  |1=>
   simp at X;subst X;exact⟨_,⟨ab,cb,rfl,hb.mono a7⟩,λj v d=>by
    match j with
    |0=>simp at d;subst d;rw[L];exact Or.inr ⟨rfl,rfl⟩
    |j+1=>simp at d⟩
  |i+2=>simp at X⟩⟩
 refine jg (Mi c' [a,b] (some ⟨bx,0,none⟩) 2 d' (by simp) (by simp;omega) (by simp;omega)) ?_;rintro e w5 ⟨v5,rfl,a8,a9⟩;have e0:=a6.tr a9;have e2:[a,b].flatten=a++b:=by simp
 rw[e2]at a8;have h7:(a++b).length=a.length+b.length:=by simp
 obtain⟨ac,cc,rfl,e3⟩:=a8.den (by omega);refine lp τok (σ:=Nat×Nat) (λq=>[(6,.map (some A)),(26,.slice ac (a++b).length cc),(27,.int .i64 (a++b).length),(28,.int .i64 q.1)])
  (λq w'=>q.1<=(a++b).length/\q.2<=q.1/\MV w' A (mapF ((a++b).take q.1)) q.2/\Kp [A] w5 w') (λq=>(a++b).length-q.1) (0,0) rfl ⟨rfl,rfl,rfl,rfl,trivial⟩ ⟨KV _,KJ _,(c6.kp a5 (by simp)).kp a9 (by simp),Kp.refl _ _⟩ ?_
 rintro⟨i,n⟩ w6 ⟨X,hn,hM,E⟩;simp only at X hn hM;refine dm (λg3=>?_) (λg3=>?_)
 ·have c:i<(a++b).length:=by omega
  obtain⟨x,hx,hd⟩:=ay c;have a':=dB hx;obtain⟨bc,oc,rfl,b0,b1,Y,b2⟩:=Fk e3 hx;have e4:Cl w6.heap bc (oc+i*2) (.int .i64 x.var):=b0.2.cl.kp E (by have:=b0.1;simp;omega);have e5:Cl w6.heap bc (oc+i*2+1) (.int .i64 x.add):=b1.2.cl.kp E (by have:=b1.1;simp;omega);refine ix i rfl c ?_;refine lz [.int .i64 x.var,.int .i64 x.add] rfl (λj v d=>?_) ?_
  ·match j with
   |0=>simp at d;subst d;exact e4
   |1=>simp at d;subst d;exact e5
   |j+2=>simp at d
  refine jC λb7 w7 e6 e7 i4 e8=>?_;refine stN (vs:=[.int .i64 x.var,.int .i64 x.add]) e7 rfl (by simp[Value.oneCell']) λw8 s i5 Z=>?_;have H:Kp [] w6 w8:=e8.newSt e6 Z;have t:=hM.kp H (by simp);have a0:Kp [A] w5 w8:=E.tr H;refine ld (s.cl rfl).cell ?_;refine t.look Y ?_;have next:∀w',MV w' A (upd (mapF ((a++b).take i)) x) (n+1) ->Kp [A] w5 w' ->MV w' A (mapF ((a++b).take (i+1))) (n+1)/\Kp [A] w5 w':=λw' h1 h2=>by
   rw[a',vw];exact⟨h1,h2⟩
  generalize hF:mapF ((a++b).take i)=F at *
  refine br (λP=>?_) (λP=>?_)
  ·have P:F x.var=none:=by simpa using P
   refine ld (s.cl rfl).cell ?_;refine ld (s.cl rfl).cell ?_;refine t.put (by omega) Y b2 λw9 I f=>?_;have hu:upd F x=kV F x.var x.add:=by unfold upd;rw[P]
   rw[<- hu]at I;obtain⟨n1,n2⟩:=next w9 I (a0.trans f (λy hy _=>hy));refine i6 ?_;exact⟨(i+1,n+1),by simp only;omega,rfl,⟨rfl,rfl,rfl,rfl,trivial⟩,c,by simp only;omega,n1,n2⟩
  ·obtain⟨u,hu⟩:∃u,F x.var=some u:=Option.isSome_iff_exists.1 (by simpa using P)
   refine ld (s.cl rfl).cell ?_;refine dm (λl=>?_) (λl=>?_)
   ·have l:u<x.add:=by
     have l:(F x.var).getD 0<x.add:=l;rw[hu]at l;exact l
    refine ld (s.cl rfl).cell ?_;refine ld (s.cl rfl).cell ?_;refine t.put (by omega) Y b2 λw9 I f=>?_;have a2:upd F x=kV F x.var x.add:=by unfold upd;rw[hu];simp only;rw[KX l]
    rw[<- a2]at I;obtain⟨n1,n2⟩:=next w9 I (a0.trans f (λy hy _=>hy));refine i6 ?_;exact⟨(i+1,n+1),by simp only;omega,rfl,⟨rfl,rfl,rfl,rfl,trivial⟩,c,by simp only;omega,n1,n2⟩
   ·have l:¬ u<x.add:=by
     have l:¬ (F x.var).getD 0<x.add:=l;rw[hu]at l;exact l
    have a2:upd F x=F:=by unfold upd;rw[hu];simp only;rw[KY l]
    refine i6 ?_;refine⟨(i+1,n),by simp only;omega,rfl,⟨rfl,rfl,rfl,rfl,trivial⟩,c,by simp only;omega,?_,a0⟩;rw[a',vw,hF,a2];exact t
 rw[JG (by omega)]at hM;have b3:∀{u},Kp [A] w5 u ->Kp [] w u:=λk=>e0.trans k (λy hy hl=>by have:=W.size;simp at hy;omega);obtain⟨Dm,b4,a3,p⟩:=hM.keys (m:=17) (by omega) (λx v h=>(O x v h).1);have b5:(maxL a b).map Atom.var=iA (mapF (a++b)) (List.range 17):=z9 _ _;have r:(iA (mapF (a++b)) (List.range 17)).length=(maxL a b).length:=by rw[<- b5];simp
 refine run (b4.len underlying284 _) ?_;rw[p,r];refine dm (λP=>?_) (λP=>?_)
 ·exact U 5 _ (by rw[hE,KX (by omega)]) (by omega) (b3 E)
 have P:(maxL a b).length<=4:=by omega
 have b6:cK a b=0:=by rw[hE,KY (by omega)]
 have hR:dx a b=maxL a b:=by unfold dx;rw[KX b6]
 rw[b6,hR];refine jg (Ma A w6) ?_;rintro e w7 ⟨rfl,rfl⟩;refine jg (Mb b4 (by rw[p,r];unfold maxLen;omega) (by rw[p,r];omega)) ?_;rintro e w8 ⟨v8,ss,rfl,e9,R,Z⟩;have b8:=e9.trans a3.symm;have e':=b8.length_eq;rw[Mg b8,e']at R;obtain⟨f',cs,rfl,g0⟩:=ints_at R;rw[r];have H:Kp [] w6 w8:=(Kp.alloc _ _).tr Z;have b9:=b3 (E.tr H);have t:=hM.kp H (by simp);have g6:∀(j:Nat) (x:Atom),(maxL a b)[j]?=some x ->mapF (a++b) x.var=some x.add/\(iA (mapF (a++b)) (List.range 17))[j]?=some x.var:=λj x d=>by
  refine⟨?_,by rw[<- b5,JX,d];rfl⟩;have:=JQ d;unfold maxL at this;obtain⟨v,_,hv⟩:=List.mem_filterMap.1 this;cases h:mapF (a++b) v with
  |none=>rw[h]at hv;cases hv
  |some n=>
   rw[h]at hv;obtain rfl:=JB hv;exact h
 refine lp τok (σ:=Nat×Value) (λq=>[(6,.map (some A)),(11,q.2),(58,.slice f' (maxL a b).length cs),(59,.int .i64 (maxL a b).length),(60,.int .i64 q.1)])
  (λq w'=>q.1<=(maxL a b).length/\Own rAt 220 w8.heap.size w' q.2 ((maxL a b).take q.1)/\Kp [] w8 w') (λq=>(maxL a b).length-q.1) (0,.slice none 0 0) rfl ⟨rfl,rfl,rfl,rfl,rfl,trivial⟩ ⟨KV _,Own.nil _ _ (KJ _),Kp.refl _ _⟩ ?_
 rintro⟨j,v9⟩ w9 ⟨d,z,f⟩;simp only at d z;refine dm (λl=>?_) (λl=>?_)
 ·have c:j<(maxL a b).length:=by omega
  obtain⟨x,hx,hd⟩:=ay c;obtain⟨c0,g7⟩:=g6 j x hx;obtain⟨g,rfl,h8,g8⟩:=g0 j x.var g7;have i7:=O _ _ c0;have c2:I64 x.var:=by unfold I64;omega
  have g9:I64 x.add:=by unfold I64;omega
  refine ix j rfl c ?_;refine ld (g8.kp f (by simp)).cell ?_;refine(t.kp f (by simp)).look1 c2 ?_;rw[c0];refine fill [.int .i64 x.var,.int .i64 x.add] rfl ?_;refine jC λbz wz i8 g' i9 a4=>?_;have K:((maxL a b).take j).length=j:=by simp;omega
  refine(z.kp a4).ap1 τok rfl rfl (by decide) x [.int .i64 x.var,.int .i64 x.add] ⟨rfl,c2,g9⟩ (bZ g') (by rw[K];omega) (by rw[K];unfold maxLen;omega) λh3 i' c3 c4 _=>?_;refine i6 ?_;refine⟨(j+1,h3),by simp only;omega,rfl,⟨rfl,rfl,rfl,rfl,rfl,trivial⟩,c,?_,(f.tr a4).own c4 (z.kp a4)⟩;rw[dB hx];exact c3
 ·rw[JG (by omega)]at z
  obtain⟨a1,c1,e1,j0⟩:=z.cap;obtain⟨S,T,rfl,h4⟩:=z.den (by omega);injection e1 with _ _ e1
  exact⟨S,T,rfl,⟨h4.mono (New.up b9.size (Kp.refl _ _)),by omega⟩,b9.tr f⟩
def dy(a:List Atom)(by':Int):Int:=if cN a 16=false then 19 else if by'<0 then 1 else if a.any (λx=>decide (1000<x.add+by'))then 6 else 0
def iB(a:List Atom)(by':Int):List Atom:=a.map λx=>⟨x.var,x.add+by'⟩
def fZ(a:List Atom)(by':Int):List Atom:=if dy a by'=0 then iB a by' else []
open Go.Wx Cd Tm Lv
theorem Mm{p q:Nd}:(p.op=q.op/\p.a=q.a/\p.b=q.b)↔p=q:=by
 obtain⟨a,b,c⟩:=p;obtain⟨g,i,j⟩:=q;constructor
 ·rintro⟨d,e,f⟩
  simp only at d e f;subst d e f
  rfl
 ·intro h
  injection h with d e f
  exact⟨d,e,f⟩
instance ndDec:DecidableEq Nd:=λp q=>decidable_of_iff (p.op=q.op/\p.a=q.a/\p.b=q.b) Mm
theorem sJ(p q:Nd)(w:World):(Op.equalIn 10000 46 (iw p) (iw q)).run prog w= .ok (decide (p=q)) w:=by
 have d : (prog.fieldsOf 46).toList.map (λf => (f.name != "_", f.offset, f.type)) = [(true, 0, 3), (true, 1, 3), (true, 2, 3)] := by kernel_rfl
 have l:prog.underlying 46=some (.struct (prog.fieldsOf 46)):=UD
 have e:prog.stoodInHeld 46=false:=UD
 refine(run_equalIn_struct w 9999 46 _ _ l e).trans ?_
 generalize (prog.fieldsOf 46).toList=k at d
 have j:k.length=3:=by have:=KG List.length d;simpa using this
 match k,j,d with
 |[f,g,h],_,d=>
  simp only[List.map_cons,List.map_nil,List.cons.injEq,Prod.mk.injEq,bne_iff_ne,ne_eq,and_true]at d;obtain⟨⟨m,n,t1⟩,⟨o,r,t2⟩,s,t,t3⟩:=d;have u:∀(a b:Int) (w:World),(Op.equalIn 9999 3 (.int .i64 a) (.int .i64 b)).run prog w= .ok (a==b) w:=λa b w=>run_equalIn_int w 9998 3 .i64 .i64 a b underlying3;have v:∀{i:Nat} {a b c:Value} (w:World),i<3 ->(part 3 #[a,b,c] i).run prog w= .ok ([a,b,c].getD i undef) w:=λ{i} _ _ _ w x=>by
   match i,x with
   |0,_=>simp[part,isAgg,run_underlying underlying3]
   |1,_=>simp[part,isAgg,run_underlying underlying3]
   |2,_=>simp[part,isAgg,run_underlying underlying3]
  obtain⟨y,z,A⟩:=p;obtain⟨E,F,H⟩:=q
  by_cases I:y=E<;>by_cases K:z=F<;>by_cases L:A=H<;>simp[Op.eqFields,m,o,s,n,r,t,t1,t2,t3,v,u,I,K,L]
theorem Fl(x y:Operand)(p q:Nd)(w:World):(do eqGuard .neq 46 x y (iw p) (iw q);binOp .neq 46 (iw p) (iw q):Sem Value).run prog w= .ok (.bool (!decide (p=q))) w:=by
 simp only[Sem.run_bind,run_eqGuard_agg w .neq 46 x y _ _ (show prog.eqGuardType prog.depth 46=false by kernel_rfl),Result.andThen_ok,run_neq_struct];have h:=sJ p q w;unfold iw at h;rw[h]
 rfl
theorem Fm(x y:Operand)(p q:Nd)(w:World):(do eqGuard .eql 46 x y (iw p) (iw q);binOp .eql 46 (iw p) (iw q):Sem Value).run prog w= .ok (.bool (decide (p=q))) w:=by
 simp only[Sem.run_bind,run_eqGuard_agg w .eql 46 x y _ _ (show prog.eqGuardType prog.depth 46=false by kernel_rfl),Result.andThen_ok,run_eql_struct];have h:=sJ p q w;unfold iw at h;rw[h]
 rfl
section
variable{C D:Mem}{w:World}
def bX(x:Tr):List Atom:=x.ks.map λk=>⟨k.n.a,k.n.b⟩
theorem Fo{x:Tr}(p:Ok .tm x)(h2:x.n.op=2):row x=x.n::x.ks.map (·.n)/\x.ks.length<=4/\(x.ks.length:Int)=x.n.b/\∀k∈x.ks,k.n.op=3/\aG k.n=true:=by
 obtain⟨n,o⟩:=x;simp only[Tr.n,Tr.ks]at h2 ⊢;obtain⟨q,f,t⟩:=p.kids;obtain⟨r,_,_,e⟩:=fq q;rw[KX h2]at e;have i:(n.a=0 \/n.a=1)/\aX n.b 1 4=true:=by simpa[aG,h2]using r
 have:=dE.1 i.2;have c:∀(l:List Tr) (k:Nat),bC cnt nx l n .tm k ->∀y∈l,y.n.op=3/\aG y.n=true/\y.ks=[]:=by
  intro l
  induction l with
  |nil=>intro k _ y a;cases a
  |cons z l j=>
   intro k h y a;rcases List.mem_cons.1 a with rfl|a
   ·obtain⟨m,s⟩:=y
    have d:=h.1.1;rw[show nx Md.tm n k= .am by simp[nx,h2]]at d;simp only[cnt]at d;split at d
    ·rename_i g
     exact⟨g.1,g.2,List.length_eq_zero_iff.1 (JB d).symm⟩
    ·cases d
   ·exact j _ h.2 y a
 have b:=c o 0 f;refine⟨?_,Uo,Uo,λk e=>⟨(b k e).1,(b k e).2.1⟩⟩;simp only[row]
 congr 1
 have:∀(l:List Tr),(∀y∈l,y.ks=[]) ->rows l=l.map (·.n):=by
  intro l
  induction l with
  |nil=>intro _;rfl
  |cons y l j=>
   intro h;obtain⟨m,s⟩:=y;have:s=[]:=h (.mk m s) Ud;subst this;simp only[rows,row,List.map_cons,Tr.n];rw[j λy a=>h y (by simp[a])]
   rfl
 exact this o λy a=>(b y a).2.2
def placesM(x:Tr):List Int:=x.ks.map (·.n.a)
end
def Ab(C:Mem)(w:World)(bj:Nat)(B:ak)(c:Ctx)(n er:Int):Prop:=∃v1 v2 v3 v4,Bk w.heap bj [.int .i64 B.vars,v1,v2,.int .i64 B.nat,v3,v4,.int .i64 n,.int .i64 er] 317/\SV rOr C B.orders v1/\SV rEn C B.ents v2/\SV rPr C B.prims v3/\SV rBd C (c.map aA) v4
def iC(B:ak)(f g:Tr)(under:Bool):Bool:=decide (f.n.a=g.n.a) && (j6 B.vars B.orders (bX f) (bX g) && (under||j6 B.vars B.orders (bX g) (bX f)))
abbrev RcC:=Ctx ->Tr ->Tr ->Bool ->Nat ->Except Int (Bool×Nat)
def gL(m:Except Int (Bool×Nat))(k:Nat ->Except Int (Bool×Nat)):Except Int (Bool×Nat):=match m with
 | .error e=>.error e
 | .ok q=>if q.1=true then k q.2 else .ok (false,q.2)
def dh(rc:RcC)(cx:Ctx):List Tr ->List Tr ->Nat ->Except Int (Bool×Nat)
 |x::r,y::s,n=>gL (rc cx x y false n) (dh rc cx r s)
 |_,_,n=>.ok (true,n)
def aQ(f:Tr):Ctx:=(List.range f.n.b.toNat).map λi=>(aK (kidD f (2*i)) i 0,none)
def eJ(rc:RcC)(cx cx':Ctx):List Tr ->List Tr ->Nat ->Except Int (Bool×Nat)
 |x::a::r,y::b::s,n=>gL (rc cx x y false n) λn=>gL (rc cx' a b false n) (eJ rc cx cx' r s)
 |_,_,n=>.ok (true,n)
def nf(rc:RcC)(cx:Ctx)(f g:Tr)(n:Nat):Except Int (Bool×Nat):=
 if placesM f=placesM g then eJ rc cx (cx++aQ f) (kidsT f) (kidsT g) n else .ok (false,n)
def jq(B:ak)(rc:RcC)(cx:Ctx)(f g:Tr)(under:Bool)(n:Nat):Except Int (Bool×Nat):=
 if f.n.op=2 then .ok (iC B f g under,n)
 else if f.n.op=4 then gL (rc cx (kidD f 0) (kidD g 0) false n) (rc (cx++[(kidD f 0,none)]) (kidD f 1) (kidD g 1) under)
 else if f.n.op=5 then gL (rc cx (kidD f 0) (kidD g 0) false n) (rc (cx++[(kidD f 0,none)]) (kidD f 1) (kidD g 1) false)
 else if f.n.op=12 then (if f.n=g.n then nf rc cx f g n else .ok (false,n))
 else if f.n=g.n then dh rc cx (kidsT f) (kidsT g) n else .ok (false,n)
def ol(B:ak)(rc:RcC)(cx:Ctx)(x y:Tr)(under:Bool)(n:Nat):Except Int (Bool×Nat):=
 if (headT x).n.op≠(headT y).n.op \/(argsT x).length≠(argsT y).length then .ok (false,n)
 else gL (jq B rc cx (headT x) (headT y) under n) (dh rc cx (argsT x) (argsT y))
def db(B:ak):Nat ->RcC
 |0,_,_,_,_,_=>.error 10
 |g+1,cx,x,y,u,n=>if n=0 then .error 10 else if row x=row y then .ok (true,n-1)else if 256<cx.length then .error 5
  else match dW B cx x ((n-1:Nat):Int)with
   | .error e=>.error e
   | .ok p=>match dW B cx y (p.2:Int)with
    | .error e=>.error e
    | .ok q=>ol B (db B g) cx p.1 q.1 u q.2
section
variable{B:ak}{cx:Ctx}
theorem ps':∀(g:Nat) (x:Tr) (room:Int) (n:Nat) (q:Tr×Nat),cz B cx g x room n= .ok q ->q.2<=n
 |0,x,room,n,q,h=>by cases h
 |g+1,x,room,n,q,h=>by
  simp only[cz]at h;have b:∀p,jm B cx (cz B cx g) room p= .ok q ->q.2<=p.2:=λp h=>by
   unfold jm at h;split at h
   ·split at h
    ·cases h
    ·cases c:hY B cx p.1 with
     |error e=>rw[c]at h;cases h
     |ok z=>
      rw[c]at h;simp only at h;split at h
      ·cases h
      ·have:=ps' g _ _ _ _ h
       omega
   ·injection h with h
    subst h;exact KJ _
  cases a:jl (cz B cx g) x room n with
  |error e=>rw[a]at h;cases h
  |ok p=>
   rw[a]at h;have d:=b p h;unfold jl at a;split at a
   ·injection a with a
    subst a;exact d
   ·split at a
    ·cases a
    ·rename_i f
     injection a with a
     subst a;have:=ps' g _ _ _ _ f;exact KQ d this
theorem sK{x:Tr}{n:Nat}{q:Tr×Nat}(h:dW B cx x (n:Int)= .ok q):q.2<=n:=by
 have:=ps' _ _ _ _ _ h;unfold bA at this;omega
def om(rc:RcC):Prop:=∀cx x y u n q,rc cx x y u n= .ok q ->q.2<=n
theorem qB{m:Except Int (Bool×Nat)}{k:Nat ->Except Int (Bool×Nat)}{n:Nat}{q:Bool×Nat}(hm:∀q,m= .ok q ->q.2<=n)(b:∀i q,k i= .ok q ->q.2<=i)(h:gL m k= .ok q):q.2<=n:=by
 unfold gL at h;split at h
 ·cases h
 ·rename_i p
  have a:=hm p rfl;split at h
  ·exact KQ (b _ _ h) a
  ·injection h with h
   subst h;exact a
theorem Ac{a:RcC}(hr:om a):∀(xs ys:List Tr) (n:Nat) (q:Bool×Nat),dh a cx xs ys n= .ok q ->q.2<=n
 |x::r,y::s,n,q,h=>qB (λq=>hr _ _ _ _ _ q) (λi q=>Ac hr r s i q) h
 |[],ys,n,q,h=>by simp only[dh,Except.ok.injEq]at h;subst h;exact KJ _
 |x::r,[],n,q,h=>by simp only[dh,Except.ok.injEq]at h;subst h;exact KJ _
theorem Fp{d:RcC}(hr:om d){c:Ctx}:∀(xs ys:List Tr) (n:Nat) (q:Bool×Nat),eJ d cx c xs ys n= .ok q ->q.2<=n
 |x::a::r,y::b::s,n,q,h=>qB (λq=>hr _ _ _ _ _ q) (λi q h=>qB (λq=>hr _ _ _ _ _ q) (λi q=>Fp hr r s i q) h) h
 |[],ys,n,q,h=>by simp only[eJ,Except.ok.injEq]at h;subst h;exact KJ _
 |[x],ys,n,q,h=>by simp only[eJ,Except.ok.injEq]at h;subst h;exact KJ _
 |x::a::r,[],n,q,h=>by simp only[eJ,Except.ok.injEq]at h;subst h;exact KJ _
 |x::a::r,[y],n,q,h=>by simp only[eJ,Except.ok.injEq]at h;subst h;exact KJ _
theorem Fq{a:RcC}(hr:om a){f g:Tr}{u:Bool}{n:Nat}{q:Bool×Nat}(h:jq B a cx f g u n= .ok q):q.2<=n:=by
 unfold jq at h;split at h
 ·injection h with h;subst h;exact KJ _
 split at h
 ·exact qB (λq=>hr _ _ _ _ _ q) (λi q=>hr _ _ _ _ _ q) h
 split at h
 ·exact qB (λq=>hr _ _ _ _ _ q) (λi q=>hr _ _ _ _ _ q) h
 split at h
 ·split at h
  ·unfold nf at h
   split at h
   ·exact Fp hr _ _ _ _ h
   ·injection h with h;subst h;exact KJ _
  ·injection h with h;subst h;exact KJ _
 split at h
 ·exact Ac hr _ _ _ _ h
 ·injection h with h;subst h;exact KJ _
theorem Mn{a:RcC}(hr:om a){f g:Tr}{u:Bool}{n:Nat}{q:Bool×Nat}(h:ol B a cx f g u n= .ok q):q.2<=n:=by
 unfold ol at h;split at h
 ·injection h with h;subst h;exact KJ _
 ·exact qB (λq=>Fq hr) (λi q=>Ac hr _ _ _ _) h
theorem lR(B:ak):∀g,om (db B g)
 |0,cx,x,y,u,n,q,h=>by cases h
 |g+1,cx,x,y,u,n,q,h=>by
  simp only[db]at h;split at h
  ·cases h
  split at h
  ·injection h with h;subst h;simp
  split at h
  ·cases h
  split at h
  ·cases h
  rename_i p b;split at h
  ·cases h
  rename_i c a;have h1:=sK b;have d:=sK a;have e:=Mn (lR B g) h;omega
end
def Ad(X:List Nat)(w:World)(bj:Nat)(B:ak)(cx:Ctx)(r:Except Int (Bool×Nat))(e:Ending)(w':World):Prop:=
 (match r with
  | .ok q=>e= .returned (.bool q.1)/\Ab (Im X w') w' bj B cx q.2 0
  | .error er=>e= .returned (.bool false)/\er≠0/\∃m:Int,Ab (Im X w') w' bj B cx m er)/\Kp [bj] w w'
def Fs(B:ak)(g:Nat)(rc:RcC):Prop:=∀(X:List Nat) (w:World) (bj:Nat) (cx:Ctx) (x y:Tr) (u:Bool) (n:Nat) (vx vy:Value),(XL X w) ->bj∈X ->CxOk B cx ->cx.length<=260 ->Ab (Im X w) w bj B cx n 0 ->
 Ft (QB B) (cx.length:Int) x ->Ft (QB B) (cx.length:Int) y ->n<=g ->n<=100000 ->TmV (Im X w) x vx ->TmV (Im X w) y vy ->
 CC 254 #[pt bj,vx,vy,.bool u] w (Ad X w bj B cx (rc cx x y u n))
theorem CxOk.app{B:ak}{c mo:Ctx}(h:CxOk B c)(hm:∀(i:Nat) q,mo[i]?=some q ->Ft (QB B) ((c.length+i:Nat):Int) q.1/\∀x,q.2=some x ->Ft (QB B) ((c.length+i:Nat):Int) x):CxOk B (c++mo):=λi q a=>by
 by_cases b:i<c.length
 ·rw[QH b]at a
  exact h i q a
 ·rw[QU Uo]at a
  have:=hm _ q a
  rwa [show c.length+(i-c.length)=i by omega]at this
theorem gM{Q:Nd ->Prop}{N:Int}{x:Tr}(h:Ft Q N x)(a:x.n.op=12){i:Nat}(hi:i<x.n.b.toNat):
  (kidsT x)[2*i]?=some (kidD x (2*i))/\(kidsT x)[2*i+1]?=some (kidD x (2*i+1))/\Ft Q N (kidD x (2*i))/\Ft Q (N+x.n.b) (kidD x (2*i+1)):=by
 have j:=fA h.ok a;obtain⟨d,b⟩:=h.kidD (k:=2*i) Uo;obtain⟨e,c⟩:=h.kidD (k:=2*i+1) Uo;have f:kb x.n (2*i)=0:=by unfold kb;rw[KX a,KY Uo]
 have g:kb x.n (2*i+1)=x.n.b:=by unfold kb;rw[KX a,KX Uo]
 rw[f,Int.add_zero]at b;rw[g]at c;exact⟨d,e,b,c⟩
theorem Ae{f:Tr}{i:Nat}(hi:i<f.n.b.toNat):(aQ f)[i]?=some (aK (kidD f (2*i)) i 0,none):=by
 unfold aQ;rw[JX,List.getElem?_range hi]
 rfl
theorem oq(f:Tr):(aQ f).length=f.n.b.toNat:=by simp[aQ]
theorem ng{B:ak}{cx:Ctx}{f:Tr}(h:CxOk B cx)(k:cx.length<=90000)(e:Ft (QB B) (cx.length:Int) f)(a:f.n.op=12):CxOk B (cx++aQ f):=by
 have l:=dp e.ok a;refine h.app λi q c=>?_;have d:=aM c;rw[oq]at d;rw[Ae d]at c;obtain rfl:=JB c;obtain⟨_,_,g,_⟩:=gM e a d;have:=g.lift (qk B) (b:=(i:Int)) Uo Uo Uo;exact⟨by simpa using this,λx j=>by cases j⟩
theorem Af{Q:Nd ->Prop}{N:Int}{x:Tr}(h:Ft Q N x)(h1:x.n.op≠4/\x.n.op≠5/\x.n.op≠7/\x.n.op≠12):∀y∈kidsT x,Ft Q N y:=by
 intro y a;obtain⟨i,b⟩:=JH a;obtain⟨n,c⟩:=x;have:=h.kid b;simp only[Tr.n]at h1;have e:kb n i=0:=by simp[kb,bh,h1]
 rwa [e,Int.add_zero]at this
section
variable{B:ak}{cx:Ctx}
theorem qX':∀(g:Nat) (x:Tr) (room:Int) (n:Nat) (q:Tr×Nat),cz B cx g x room n= .ok q ->cD B cx q.1=false
 |0,x,room,n,q,h=>by cases h
 |g+1,x,room,n,q,h=>by
  simp only[cz]at h;cases a:jl (cz B cx g) x room n with
  |error e=>rw[a]at h;cases h
  |ok p=>
   rw[a]at h;simp only at h;unfold jm at h;split at h
   ·split at h
    ·cases h
    ·cases b:hY B cx p.1 with
     |error e=>rw[b]at h;cases h
     |ok z=>
      rw[b]at h;simp only at h;split at h
      ·cases h
      ·exact qX' g _ _ _ _ h
   ·rename_i hr
    injection h with h
    subst h
    simpa using hr
theorem vD(c:GoodB B)(a:CxOk B cx)(d:cx.length<=90000){x:Tr}{f:Int}{q:Tr×Nat}(b:Ft (QB B) (cx.length:Int) x)(h:dW B cx x f= .ok q):Ft (QB B) (cx.length:Int) q.1/\(headT q.1).n.op≠7:=by
 have i:=b.len;obtain⟨q1,e⟩:=q;refine⟨(qr c a d GW x 4096 _ q1 e b (by unfold len;omega) Uo h).1,λg=>?_⟩;have:=qX' _ _ _ _ _ h;unfold cD at this;simp[g]at this
end
section
variable{B:ak}
@[irreducible] def GC:Nat:=100000
theorem EV':100000<=GC:=by unfold GC;exact KJ _
def lS(B:ak)(cx:Ctx)(x y:Tr)(fuel:Int)(u:Bool):Except Int (Bool×Nat):=db B GC cx x y u (bA fuel)
end
section
variable{C:Mem}{w:World}
theorem Mo(i:Sub C w)(l:List Int)(a:Option Addr)(c:Nat)(hl:Sl wv' C a l)(h:l.length<=1000000):
  CC 256 #[.slice a l.length c] w (λe w'=>(∃v,e= .returned v/\Own wv' 310 w.heap.size w' v l)/\Kp [] w w'):=by
 refine oF func256 ?_;refine cO (args:=[_]) 8 [.tmp 2] τok func256 ?_;refine Dh τok rfl ?_;cases a with
 |none=>
  obtain rfl:=hl.none_nil;exact⟨⟨_,rfl,Own.nil _ _ (KJ _)⟩,Kp.refl _ _⟩
 |some a=>
  refine fill [] rfl<|jC λn o j b k d=>?_;refine(Own.empty wv' b (lo:=w.heap.size) Uo).apF τok rfl rfl UO HR' (i.tr d) l hl (by simp only[JU];omega) (by simp only[JU,maxLen];omega) λm p f g _=>?_;rw[List.nil_append]at f;exact⟨⟨m,rfl,f⟩,d.own g (Own.empty wv' b (lo:=w.heap.size) Uo)⟩
def bS(m:List Int)(v:Int):Int:=if (m.length:Int)<=v then 0 else m.getD (m.length-1-v.toNat) 0
def jO(x:Tr)(m:List Int):Bool:=decide ((headT x).n.op=1) && decide (bS m (headT x).n.a=2)
end
abbrev RcF:=Tr ->List Int ->Bool
def gN(rc:RcF):Nat ->Tr ->List Int ->Bool
 |0,t,m=>rc t m
 |n+1,t,m=>if t.n.op=5 then rc (kidD t 0) m && gN rc n (kidD t 1) (m++[2])else rc t m
def pi(s:Tr)(m:List Int):Bool:=
 let v:=if (headT s).n.op=1 then bS m (headT s).n.a else 0
 decide (v=2)||(decide (v=1) && decide ((argsT s).length=0))
def nh(B:ak)(rc:RcF)(a:Int)(down:Bool)(m:List Int):Nat ->List Tr ->Bool
 |_,[]=>true
 |k,t::r=>gN rc (if down && decide (k<(aR B a).ctors.length)then ((aR B a).ctors.getD k default).args.length else 0) t m && nh B rc a down m (k+1) r
def lT(B:ak)(rc:RcF)(f:Tr)(m:List Int):Bool:=
 (rc (kidD f 0) m && rc (kidD f 1) m) && nh B rc f.n.a (pi (kidD f 1) m) m 0 ((kidsT f).drop 2)
def lU(rc:RcF)(m m':List Int):List Tr ->Bool
 |t::b::r=>(rc t m && rc b m') && lU rc m m' r
 |_=>true
def fB(B:ak)(pl:List Int):Nat ->RcF
 |0,_,_=>false
 |g+1,x,m=>
  let f:=headT x
  (argsT x).all (λy=>fB B pl g y m) &&
  (if f.n.op=1 then (if bS m f.n.a<100 then true else decide (pl.getD (bS m f.n.a-100).toNat 0<(argsT x).length) && jO (fK x (pl.getD (bS m f.n.a-100).toNat 0)) m)
  else if f.n.op=11 then lT B (fB B pl g) f m
  else if f.n.op=4 \/f.n.op=5 then fB B pl g (kidD f 0) m && fB B pl g (kidD f 1) (m++[0])
  else if f.n.op=7 then (fB B pl g (kidD f 0) m && fB B pl g (kidD f 1) m) && fB B pl g (kidD f 2) (m++[0])
  else if f.n.op=12 then lU (fB B pl g) m (m++List.replicate f.n.b.toNat 0) (kidsT f)
  else true)
def Mk(pl m:List Int):Prop:=∀v∈m,v=0 \/v=1 \/v=2 \/∃j:Nat,j<pl.length/\v=100+j
theorem Mk.snoc{pl m:List Int}(h:Mk pl m){v:Int}(b:v=0 \/v=1 \/v=2):Mk pl (m++[v]):=λu a=>by
 rcases List.mem_append.1 a with a|a
 ·exact h u a
 ·obtain rfl:u=v:=by simpa using a
  rcases b with h|h|h
  ·exact .inl h
  ·exact .inr (.inl h)
  ·exact .inr (.inr (.inl h))
theorem Mk.zeros{pl m:List Int}(h:Mk pl m)(k:Nat):Mk pl (m++List.replicate k 0):=λu a=>by
 rcases List.mem_append.1 a with a|a
 ·exact h u a
 ·exact .inl (List.mem_replicate.1 a).2
theorem Mk.of{pl m:List Int}(h:Mk pl m){v:Int}(b:0<=v):bS m v<100 \/∃j:Nat,j<pl.length/\bS m v=100+j:=by
 unfold bS;split
 ·left;omega
 ·rename_i g
  obtain⟨x,a,_⟩:=ay (l:=m) (k:=m.length-1-v.toNat);rw[QK,a];rcases h x (JQ a)with h|h|h|h
  ·left;simp only[Option.getD_some];omega
  ·left;simp only[Option.getD_some];omega
  ·left;simp only[Option.getD_some];omega
  ·exact .inr h
def Mp(C:Mem)(B:ak)(pl:List Int)(v:Value):Prop:=∃v1 v2 v3 v4,v= .agg #[.int .i64 B.vars,v1,v2,.int .i64 B.nat,v3,v4]/\SV rOr C B.orders v1/\SV rEn C B.ents v2/\SV rPr C B.prims v3/\SV wv' C pl v4
def Ag(B:ak)(pl:List Int)(g:Nat)(rc:RcF):Prop:=∀(C:Mem) (w:World) (N:Int) (x:Tr) (m:List Int) (lv vx vm:Value),Sub C w ->Mp C B pl lv ->Ft (QB B) N x ->Mk pl m ->m.length+4*(row x).length<=100000 ->(row x).length<=g ->TmV C x vx ->SV wv' C m vm ->
 CC 257 #[lv,vx,vm] w (λe w'=>e= .returned (.bool (rc x m))/\Kp [] w w')
theorem Fu{x:Tr}(f:Ok .tm x)(a:x.n.op=11){k:Nat}(h:k<x.ks.length):x.ks[k]?=some (kidD x k)/\Ok .tm (kidD x k)/\row x=(x.n::rows (x.ks.take k))++(row (kidD x k)++rows (x.ks.drop (k+1)))/\(rows (x.ks.take (k+1))).length=(rows (x.ks.take k)).length+(row (kidD x k)).length:=by
 obtain⟨c,_⟩:=hH f a;obtain⟨y,b,_⟩:=ay h;have e:kidD x k=y:=by simp[kidD,c,b]
 rw[e];refine⟨b,?_,K2 b,?_⟩
 ·obtain⟨n,g⟩:=x
  obtain⟨l,d,i⟩:=f.kids;refine⟨?_,dK' g k y i b⟩;have:=jF g 0 k y d b;have a:n.op=11:=a;have j:nx Md.tm n (0+k)= .tm:=by simp[nx,a]
  rwa [j]at this
 ·rw[dB b,bF']
  simp[rows]
end Go.Q
