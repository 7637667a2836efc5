import Derived.Test.YtfjfpkkpfbadoaaGreatMf07
import Derived.Lib.AppendZerosOnto
import Derived.Laws.StructEq
import Derived.ArgAppend
set_option linter.all false
set_option maxHeartbeats 4000000
open Go.Proofs Go.Proofs.Tryz Go.Wx Lv
namespace Go.Q
theorem L5(n:Nat)(a:0<n)(b:n<=1000000)(w:World):
  CC 193 #[.slice none 0 0,iV (n:Int)] w (λe w'=>∃v,e= .returned v/\Own rAt 154 w.heap.size w' v []/\Kp [] w w'):=by
 refine oF func193 ?_;refine cO (args:=[_,_]) 27 [.tmp 4] τok func193 ?_;refine pK rfl<|i6 ?_;refine i6 ?_;refine dH (λg=>?_) (λg=>?_);rotate_left
 ·exact absurd Uo g
 refine pK rfl<|pE τok rfl 0 (.slice none 0 0) rfl (KJ _) rfl ?_;have e:((n:Int)-((0:Nat)-(0:Nat):Int))=(n:Int):=Uo
 rw[e];refine xF (R:=rAt) rfl rfl UO rfl UO n a b λB G f h i c d=>?_;exact pE τok rfl 0 _ rfl (KV _) rf<|⟨_,rfl,c,d⟩
theorem L6{D:Mem}{w:World}(p:Sub D w)(ls:List (List Atom))(a:Option Addr)(cap:Nat)(hl:Sl (tZ rAt) D a ls)(z:ls.length<=1000)(h:(ls.map List.length).sum<=1000000)(i:0<(ls.map List.length).sum):
  CC 165 #[.slice a ls.length cap] w (λe w'=>∃v,e= .returned v/\Own rAt 154 w.heap.size w' v ls.flatten/\Kp [] w w'):=by
 refine oF func165 ?_;refine cO (args:=[_]) 36 [.tmp 2] τok func165 ?_;have E:=p.lt;have f:∀k,((ls.take k).map List.length).sum+((ls.drop k).map List.length).sum=(ls.map List.length).sum:=λk=>by
  rw[<- List.sum_append,<- KB,List.take_append_drop]
 refine lp τok (σ:=Nat) (λk=>[(0,.slice a ls.length cap),(3,iV (((ls.take k).map List.length).sum:Nat)),(9,.slice a ls.length cap),(10,iV ls.length),(11,iV k)]) (λk w'=>k<=ls.length/\w'=w) (λk=>ls.length-k) 0 rfl
  ⟨rfl,rfl,rfl,rfl,rfl,trivial⟩ ⟨KV _,rfl⟩ ?_
 rintro k s ⟨A,rfl⟩;refine dH (λF=>?_) (λF=>?_)
 ·have c:k<ls.length:=Uo
  obtain⟨x,j,H⟩:=az c;have r:((ls.take (k+1)).map List.length).sum=((ls.take k).map List.length).sum+x.length:=by rw[dP j];simp
  have I:=f (k+1);obtain⟨b,o,rfl,K,cx,d,l⟩:=hl.sl j;refine ix k rfl c<|Ck p d<|i6 ?_;refine i6<|⟨k+1,Uo,rfl,⟨rfl,?_,rfl,rfl,rfl,trivial⟩,c,rfl⟩;rw[r]
  rfl
 have L:ls.take k=ls:=JG Uo;rw[L];refine fZ (L5 _ i h s) ?_;rintro e P ⟨M,rfl,m,t⟩;refine lp τok (σ:=Nat×Value) (λq=>[(6,q.2),(25,.slice a ls.length cap),(26,iV ls.length),(27,iV q.1)]) (λq w'=>q.1<=ls.length/\Own rAt 154 s.heap.size w' q.2 (ls.take q.1).flatten/\Kp [] s w') (λq=>ls.length-q.1) (0,M) rfl
  ⟨rfl,rfl,rfl,rfl,trivial⟩ ⟨KV _,by simpa using m,t⟩ ?_
 clear m
 rintro⟨k,v⟩ R ⟨A,n,g⟩;simp only at A n;refine dH (λN=>?_) (λN=>?_)
 ·have c:k<ls.length:=Uo
  obtain⟨x,j,H⟩:=az c;have r:(ls.take (k+1)).flatten=(ls.take k).flatten++x:=by rw[dP j];simp
  have I:=f (k+1);have S:((ls.take (k+1)).map List.length).sum=(ls.take k).flatten.length+x.length:=by rw[<- List.length_flatten,r];simp
  obtain⟨b,o,rfl,K,cx,d,l⟩:=hl.sl j;refine ix k rfl c<|Ck (p.tr g) d<|n.apF τok rfl rfl UO ET' (p.tr g) x l Uo (by unfold maxLen;omega) λO T u y _=>?_;refine i6<|⟨(k+1,O),Us,rfl,⟨rfl,rfl,rfl,rfl,trivial⟩,c,?_,g.own y n⟩;rw[r];exact u
 ·rw[JG Uo]at n
  exact⟨v,rfl,n,g⟩
theorem L7{a b:List Atom}(ha:cL a 16=true)(hb:cL b 16=true):∀x v,mapF (a++b) x=some v ->(0<=x/\x<(17:Nat))/\0<=v/\v<=1000:=λx v h=>by
 obtain⟨y,c,rfl,rfl⟩:=vD h;rcases List.mem_append.1 c with c|c
 ·have:=(jO ha).2 y c;omega
 ·have:=(jO hb).2 y c;omega
theorem ints_at{w:World}{lo:Nat}{v:Value}{l:List Int}(h:w.ownsRow lo 3 1 v l.length (l.map (Value.int .i64))):∃a cap,v= .slice a l.length cap/\∀i x,l[i]?=some x ->∃g,a=some ⟨g,0,none⟩/\lo<=g/\Cl w.heap g (0+i*1) (iV x):=by
 rcases h.2 with ⟨rfl,e⟩|⟨g,cap,b,rfl,f,j,n,o,p,k⟩
 ·exact⟨none,0,by rw[e],λi x c=>by have:=aL c;omega⟩
 ·refine⟨_,cap,rfl,λi x c=>⟨g,rfl,f,b,3,(0,0),j,?_⟩⟩
  have m:=aL c;have d:(b.toList.take (l.length*1))[i]?=(l.map (Value.int .i64))[i]?:=by rw[k]
  rw[List.getElem?_take_of_lt Uo]at d;simp only[JX,c,Option.map_some]at d;rw[KW,Nat.mul_one]
  simpa using d
theorem L8{C:Mem}{w:World}(hS:Sub C w)(a b:List Atom)(aa ab:Option Addr)(ca cb:Nat)(ha:Sl rAt C aa a)(hb:Sl rAt C ab b):
  CC 133 #[.slice aa a.length ca,.slice ab b.length cb] w (λe w'=>∃ar S,e= .returned (.tuple #[.slice ar (dB a b).length S,iV (cI a b)])/\(Sl rAt (New w.heap.size w') ar (dB a b)/\(dB a b).length<=S)/\Kp [] w w'):=by
 refine oF func133 ?_;refine cO (args:=[_,_]) 74 [.tmp 4,.tmp 5] τok func133 ?_;have T:∀e w',cI a b=e ->e≠0 ->Kp [] w w' ->∃ar S,Ending.returned (Go.Wx.one [.slice none 0 0,iV e])= .returned (.tuple #[.slice ar (dB a b).length S,iV (cI a b)])/\(Sl rAt (New w.heap.size w') ar (dB a b)/\(dB a b).length<=S)/\Kp [] w w':=λe w' he h0 hk=>by
  have hr:dB a b=[]:=by unfold dB;rw[KY (by rw[he];exact h0)]
  rw[hr,he];exact⟨none,0,rfl,⟨Sl.nil _ _ _,KV _⟩,hk⟩
 refine fZ (Dv a aa ca 16 w (Sl.atoms ha hS)) ?_;rintro e w1 ⟨rfl,U⟩;refine br (λM=>?_) (λM=>?_)
 ·exact T 19 _ (by unfold cI;rw[KX (.inl (by simpa using M))]) (by omega) U
 have M:cL a 16=true:=by simpa using M
 refine fZ (Dv b ab cb 16 w1 (Sl.atoms hb (hS.tr U))) ?_;rintro e w2 ⟨rfl,c4⟩;have V:=U.tr c4;refine br (λN=>?_) (λN=>?_)
 ·exact T 19 _ (by unfold cI;rw[KX (.inr (by simpa using N))]) (by omega) V
 have N:cL b 16=true:=by simpa using N
 have hE:cI a b=if 4<(maxL a b).length then 5 else 0:=by unfold cI;rw[KY (by simp[M,N])]
 have h8:=(jO M).1;have h9:=(jO N).1;have h4:=(zG M).2;have h5:=(zG N).2;have O:=L7 M N;refine MV.made λA w3 h' c5 i0 c6=>?_;have c7:=V.tr c6;refine fill [.slice aa a.length ca,.slice ab b.length cb] rfl ?_;refine fD λbx w4 i1 c8 i2 a4=>?_;have a5:=c7.tr a4;obtain⟨C1,L⟩:∃C1:Mem,C1=λb' o v=>C b' o v \/(b'=bx/\[Value.slice aa a.length ca,.slice ab b.length cb][o]?=some v):=⟨_,rfl⟩
 have c9:Sub C1 w4:=by
  rw[L];rintro b' o v (h|⟨rfl,h⟩)
  ·exact(hS.tr a5) _ _ _ h
  ·exact c8.cl h
 have a6:∀b o v,C b o v ->C1 b o v:=by rw[L];exact λb o v h=>Or.inl h
 have c':Sl (tZ rAt) C1 (some ⟨bx,0,none⟩) [a,b]:=⟨by simp,.inr ⟨bx,0,rfl,λi x W=>by
  match i with
  |0=>
   simp at W;subst W;exact⟨_,⟨aa,ca,rfl,ha.mono a6⟩,λj v d=>by
    match j with
    |0=>simp at d;subst d;rw[L];exact Or.inr ⟨rfl,rfl⟩
    |j+1=>simp at d⟩
  |1=>
   simp at W;subst W;exact⟨_,⟨ab,cb,rfl,hb.mono a6⟩,λj v d=>by
    match j with
    |0=>simp at d;subst d;rw[L];exact Or.inr ⟨rfl,rfl⟩
    |j+1=>simp at d⟩
  |i+2=>simp at W⟩⟩
 refine fZ (L6 c9 [a,b] (some ⟨bx,0,none⟩) 2 c' (by simp) (by simp;omega) (by simp;omega)) ?_;rintro e w5 ⟨v5,rfl,a7,a8⟩;have d':=a5.tr a8;have e0:[a,b].flatten=a++b:=by simp
 rw[e0]at a7;have h6:(a++b).length=a.length+b.length:=by simp
 obtain⟨ac,cc,rfl,e2⟩:=a7.den (by omega);refine lp τok (σ:=Nat×Nat) (λq=>[(6,.map (some A)),(26,.slice ac (a++b).length cc),(27,iV (a++b).length),(28,iV q.1)])
  (λq w'=>q.1<=(a++b).length/\q.2<=q.1/\MV w' A (mapF ((a++b).take q.1)) q.2/\Kp [A] w5 w') (λq=>(a++b).length-q.1) (0,0) rfl ⟨rfl,rfl,rfl,rfl,trivial⟩ ⟨KV _,KJ _,(c5.kp a4 (by simp)).kp a8 (by simp),Kp.refl _ _⟩ ?_
 rintro⟨i,n⟩ w6 ⟨W,hn,hM,E⟩;simp only at W hn hM;refine dH (λg3=>?_) (λg3=>?_)
 ·have c:i<(a++b).length:=by omega
  obtain⟨x,hx,hd⟩:=az c;have a9:=dP hx;obtain⟨bc,oc,rfl,a',b0,X,b1⟩:=Fb e2 hx;have e3:Cl w6.heap bc (oc+i*2) (iV x.var):=a'.2.cl.kp E (by have:=a'.1;simp;omega);have e4:Cl w6.heap bc (oc+i*2+1) (iV x.add):=b0.2.cl.kp E (by have:=b0.1;simp;omega);refine ix i rfl c ?_;refine jL [iV x.var,iV x.add] rfl (λj v d=>?_) ?_
  ·match j with
   |0=>simp at d;subst d;exact e3
   |1=>simp at d;subst d;exact e4
   |j+2=>simp at d
  refine fD λb7 w7 e5 e6 i3 e7=>?_;refine stN (vs:=[iV x.var,iV x.add]) e6 rfl (by simp[Value.oneCell']) λw8 s i4 Y=>?_;have H:Kp [] w6 w8:=e7.newSt e5 Y;have t:=hM.kp H (by simp);have Z:Kp [A] w5 w8:=E.tr H;refine ld (s.cl rfl).cell ?_;refine t.look X ?_;have next:∀w',MV w' A (upd (mapF ((a++b).take i)) x) (n+1) ->Kp [A] w5 w' ->MV w' A (mapF ((a++b).take (i+1))) (n+1)/\Kp [A] w5 w':=λw' h1 h2=>by
   rw[a9,vB];exact⟨h1,h2⟩
  generalize hF:mapF ((a++b).take i)=F at *
  refine br (λP=>?_) (λP=>?_)
  ·have P:F x.var=none:=by simpa using P
   refine ld (s.cl rfl).cell ?_;refine ld (s.cl rfl).cell ?_;refine t.put (by omega) X b1 λw9 I f=>?_;have hu:upd F x=kP F x.var x.add:=by unfold upd;rw[P]
   rw[<- hu]at I;obtain⟨n1,n2⟩:=next w9 I (Z.trans f (λy hy _=>hy));refine i6 ?_;exact⟨(i+1,n+1),by simp only;omega,rfl,⟨rfl,rfl,rfl,rfl,trivial⟩,c,by simp only;omega,n1,n2⟩
  ·obtain⟨u,hu⟩:∃u,F x.var=some u:=Option.isSome_iff_exists.1 (by simpa using P)
   refine ld (s.cl rfl).cell ?_;refine dH (λl=>?_) (λl=>?_)
   ·have l:u<x.add:=by
     have l:(F x.var).getD 0<x.add:=l;rw[hu]at l;exact l
    refine ld (s.cl rfl).cell ?_;refine ld (s.cl rfl).cell ?_;refine t.put (by omega) X b1 λw9 I f=>?_;have a0:upd F x=kP F x.var x.add:=by unfold upd;rw[hu];simp only;rw[KX l]
    rw[<- a0]at I;obtain⟨n1,n2⟩:=next w9 I (Z.trans f (λy hy _=>hy));refine i6 ?_;exact⟨(i+1,n+1),by simp only;omega,rfl,⟨rfl,rfl,rfl,rfl,trivial⟩,c,by simp only;omega,n1,n2⟩
   ·have l:¬ u<x.add:=by
     have l:¬ (F x.var).getD 0<x.add:=l;rw[hu]at l;exact l
    have a0:upd F x=F:=by unfold upd;rw[hu];simp only;rw[KY l]
    refine i6 ?_;refine⟨(i+1,n),by simp only;omega,rfl,⟨rfl,rfl,rfl,rfl,trivial⟩,c,by simp only;omega,?_,Z⟩;rw[a9,vB,hF,a0];exact t
 rw[JG (by omega)]at hM;have b2:∀{u},Kp [A] w5 u ->Kp [] w u:=λk=>d'.trans k (λy hy hl=>by have:=V.size;simp at hy;omega);obtain⟨Dm,b3,a2,p⟩:=hM.keys (m:=17) (by omega) (λx v h=>(O x v h).1);have b4:(maxL a b).map Atom.var=ik (mapF (a++b)) (List.range 17):=zH _ _;have r:(ik (mapF (a++b)) (List.range 17)).length=(maxL a b).length:=by rw[<- b4];simp
 refine run (b3.len underlying212 _) ?_;rw[p,r];refine dH (λP=>?_) (λP=>?_)
 ·exact T 5 _ (by rw[hE,KX (by omega)]) (by omega) (b2 E)
 have P:(maxL a b).length<=4:=by omega
 have b5:cI a b=0:=by rw[hE,KY (by omega)]
 have hR:dB a b=maxL a b:=by unfold dB;rw[KX b5]
 rw[b5,hR];refine fZ (LZ A w6) ?_;rintro e w7 ⟨rfl,rfl⟩;refine fZ (L0 b3 (by rw[p,r];unfold maxLen;omega) (by rw[p,r];omega)) ?_;rintro e w8 ⟨v8,ss,rfl,e8,R,Y⟩;have b6:=e8.trans a2.symm;have e9:=b6.length_eq;rw[L4 b6,e9]at R;obtain⟨e',cs,rfl,f'⟩:=ints_at R;rw[r];have H:Kp [] w6 w8:=(Kp.alloc _ _).tr Y;have b8:=b2 (E.tr H);have t:=hM.kp H (by simp);have g0:∀(j:Nat) (x:Atom),(maxL a b)[j]?=some x ->mapF (a++b) x.var=some x.add/\(ik (mapF (a++b)) (List.range 17))[j]?=some x.var:=λj x d=>by
  refine⟨?_,by rw[<- b4,JX,d];rfl⟩;have:=JQ d;unfold maxL at this;obtain⟨v,_,hv⟩:=List.mem_filterMap.1 this;cases h:mapF (a++b) v with
  |none=>rw[h]at hv;cases hv
  |some n=>
   rw[h]at hv;obtain rfl:=JB hv;exact h
 refine lp τok (σ:=Nat×Value) (λq=>[(6,.map (some A)),(11,q.2),(58,.slice e' (maxL a b).length cs),(59,iV (maxL a b).length),(60,iV q.1)])
  (λq w'=>q.1<=(maxL a b).length/\Own rAt 154 w8.heap.size w' q.2 ((maxL a b).take q.1)/\Kp [] w8 w') (λq=>(maxL a b).length-q.1) (0,.slice none 0 0) rfl ⟨rfl,rfl,rfl,rfl,rfl,trivial⟩ ⟨KV _,Own.nil _ _ (KJ _),Kp.refl _ _⟩ ?_
 rintro⟨j,v9⟩ w9 ⟨d,z,f⟩;simp only at d z;refine dH (λl=>?_) (λl=>?_)
 ·have c:j<(maxL a b).length:=by omega
  obtain⟨x,hx,hd⟩:=az c;obtain⟨b9,g6⟩:=g0 j x hx;obtain⟨g,rfl,h7,g7⟩:=f' j x.var g6;have i5:=O _ _ b9;have c0:I64 x.var:=by unfold I64;omega
  have g8:I64 x.add:=by unfold I64;omega
  refine ix j rfl c ?_;refine ld (g7.kp f (by simp)).cell ?_;refine(t.kp f (by simp)).look1 c0 ?_;rw[b9];refine fill [iV x.var,iV x.add] rfl ?_;refine fD λbz wz i7 g9 i8 a3=>?_;have K:((maxL a b).take j).length=j:=by simp;omega
  refine(z.kp a3).ap1 τok rfl rfl (by decide) x [iV x.var,iV x.add] ⟨rfl,c0,g8⟩ (bZ g9) (by rw[K];omega) (by rw[K];unfold maxLen;omega) λg' i9 c2 c3 _=>?_;refine i6 ?_;refine⟨(j+1,g'),by simp only;omega,rfl,⟨rfl,rfl,rfl,rfl,rfl,trivial⟩,c,?_,(f.tr a3).own c3 (z.kp a3)⟩;rw[dP hx];exact c2
 ·rw[JG (by omega)]at z
  obtain⟨a1,c1,e1,i'⟩:=z.cap;obtain⟨ar,S,rfl,h3⟩:=z.den (by omega);injection e1 with _ _ e1
  exact⟨ar,S,rfl,⟨h3.mono (New.up b8.size (Kp.refl _ _)),by omega⟩,b8.tr f⟩
def dC(a:List Atom)(by':Int):Int:=if cL a 16=false then 19 else if by'<0 then 1 else if a.any (λx=>decide (1000<x.add+by'))then 6 else 0
def io(a:List Atom)(by':Int):List Atom:=a.map λx=>⟨x.var,x.add+by'⟩
def fS(a:List Atom)(by':Int):List Atom:=if dC a by'=0 then io a by' else []
open Go.Wx Cd Tm Lv
theorem L9{p q:Nd}:(p.op=q.op/\p.a=q.a/\p.b=q.b)↔p=q:=by
 obtain⟨a,b,c⟩:=p;obtain⟨g,i,j⟩:=q;constructor
 ·rintro⟨d,e,f⟩
  simp only at d e f;subst d e f
  rfl
 ·intro h
  injection h with d e f
  exact⟨d,e,f⟩
instance ndDec:DecidableEq Nd:=λp q=>decidable_of_iff (p.op=q.op/\p.a=q.a/\p.b=q.b) L9
theorem Fc(x y:Operand)(p q:Nd)(w:World):(do eqGuard .neq 47 x y (jM p) (jM q);binOp .neq 47 (jM p) (jM q):Sem Value).run prog w= .ok (.bool (!decide (p=q))) w:=by
 have d : (prog.fieldsOf 47).toList.map (λf => (f.name != "_", f.offset, f.type)) = [(true, 0, 3), (true, 1, 3), (true, 2, 3)] := by kernel_rfl
 have F:prog.underlying 47=some (.struct (prog.fieldsOf 47)):=UD
 have H:prog.eqGuardType prog.depth 47=false:=UD
 have t:prog.stoodInHeld 47=false:=UD
 simp only[Sem.run_bind,run_eqGuard_agg w .neq 47 x y _ _ H,Result.andThen_ok,run_neq_struct];rw[show (10000:Nat)=9999+1 from rfl,run_equalIn_struct w 9999 47 _ _ F t]
 generalize (prog.fieldsOf 47).toList=v at d
 have u:v.length=3:=by have:=KG List.length d;simpa using this
 match v,u,d with
 |[f,g,h],_,d=>
  simp only[List.map_cons,List.map_nil,List.cons.injEq,Prod.mk.injEq,bne_iff_ne,ne_eq,and_true]at d;obtain⟨⟨e,i,t1⟩,⟨j,k,t2⟩,l,m,t3⟩:=d;have n:∀(a b:Int) (w:World),(Op.equalIn 9999 3 (iV a) (iV b)).run prog w= .ok (a==b) w:=λa b w=>by rw[show (9999:Nat)=9998+1 from rfl];exact run_equalIn_int w 9998 3 .i64 .i64 a b underlying3
  have o:∀(a b c:Value) (w:World),(part 3 #[a,b,c] 0).run prog w= .ok a w:=λa b c w=>by simp[part,isAgg,run_underlying underlying3]
  have r:∀(a b c:Value) (w:World),(part 3 #[a,b,c] 1).run prog w= .ok b w:=λa b c w=>by simp[part,isAgg,run_underlying underlying3]
  have s:∀(a b c:Value) (w:World),(part 3 #[a,b,c] 2).run prog w= .ok c w:=λa b c w=>by simp[part,isAgg,run_underlying underlying3]
  obtain⟨I,K,L⟩:=p;obtain⟨M,N,O⟩:=q
  by_cases z:I=M
  ·subst z
   by_cases A:K=N
   ·subst A
    by_cases E:L=O
    ·subst E
     simp[Op.eqFields,e,j,l,i,k,m,t1,t2,t3,o,r,s,n]
    ·simp[Op.eqFields,e,j,l,i,k,m,t1,t2,t3,o,r,s,n,E]
   ·simp[Op.eqFields,e,j,l,i,k,m,t1,t2,t3,o,r,s,n,A]
  ·simp[Op.eqFields,e,j,l,i,k,m,t1,t2,t3,o,r,s,n,z]
theorem Fe(x y:Operand)(p q:Nd)(w:World):(do eqGuard .eql 47 x y (jM p) (jM q);binOp .eql 47 (jM p) (jM q):Sem Value).run prog w= .ok (.bool (decide (p=q))) w:=by
 have d : (prog.fieldsOf 47).toList.map (λf => (f.name != "_", f.offset, f.type)) = [(true, 0, 3), (true, 1, 3), (true, 2, 3)] := by kernel_rfl
 have F:prog.underlying 47=some (.struct (prog.fieldsOf 47)):=UD
 have H:prog.eqGuardType prog.depth 47=false:=UD
 have t:prog.stoodInHeld 47=false:=UD
 simp only[Sem.run_bind,run_eqGuard_agg w .eql 47 x y _ _ H,Result.andThen_ok,run_eql_struct];rw[show (10000:Nat)=9999+1 from rfl,run_equalIn_struct w 9999 47 _ _ F t]
 generalize (prog.fieldsOf 47).toList=v at d
 have u:v.length=3:=by have:=KG List.length d;simpa using this
 match v,u,d with
 |[f,g,h],_,d=>
  simp only[List.map_cons,List.map_nil,List.cons.injEq,Prod.mk.injEq,bne_iff_ne,ne_eq,and_true]at d;obtain⟨⟨e,i,t1⟩,⟨j,k,t2⟩,l,m,t3⟩:=d;have n:∀(a b:Int) (w:World),(Op.equalIn 9999 3 (iV a) (iV b)).run prog w= .ok (a==b) w:=λa b w=>by rw[show (9999:Nat)=9998+1 from rfl];exact run_equalIn_int w 9998 3 .i64 .i64 a b underlying3
  have o:∀(a b c:Value) (w:World),(part 3 #[a,b,c] 0).run prog w= .ok a w:=λa b c w=>by simp[part,isAgg,run_underlying underlying3]
  have r:∀(a b c:Value) (w:World),(part 3 #[a,b,c] 1).run prog w= .ok b w:=λa b c w=>by simp[part,isAgg,run_underlying underlying3]
  have s:∀(a b c:Value) (w:World),(part 3 #[a,b,c] 2).run prog w= .ok c w:=λa b c w=>by simp[part,isAgg,run_underlying underlying3]
  obtain⟨I,K,L⟩:=p;obtain⟨M,N,O⟩:=q
  by_cases z:I=M
  ·subst z
   by_cases A:K=N
   ·subst A
    by_cases E:L=O
    ·subst E
     simp[Op.eqFields,e,j,l,i,k,m,t1,t2,t3,o,r,s,n]
    ·simp[Op.eqFields,e,j,l,i,k,m,t1,t2,t3,o,r,s,n,E]
   ·simp[Op.eqFields,e,j,l,i,k,m,t1,t2,t3,o,r,s,n,A]
  ·simp[Op.eqFields,e,j,l,i,k,m,t1,t2,t3,o,r,s,n,z]
section
variable{C D:Mem}{w:World}
def bq(x:Tr):List Atom:=x.ks.map λk=>⟨k.n.a,k.n.b⟩
theorem Ff{x:Tr}(p:Ok .tm x)(h2:x.n.op=2):row x=x.n::x.ks.map (·.n)/\x.ks.length<=4/\(x.ks.length:Int)=x.n.b/\∀k∈x.ks,k.n.op=3/\aw k.n=true:=by
 obtain⟨n,o⟩:=x;simp only[Tr.n,Tr.ks]at h2 ⊢;obtain⟨q,f,t⟩:=p.kids;obtain⟨r,_,_,e⟩:=eS q;rw[KX h2]at e;have i:(n.a=0 \/n.a=1)/\aI n.b 1 4=true:=by simpa[aw,h2]using r
 have:=dI.1 i.2;have c:∀(l:List Tr) (k:Nat),bH cnt nx l n .tm k ->∀y∈l,y.n.op=3/\aw y.n=true/\y.ks=[]:=by
  intro l
  induction l with
  |nil=>intro k _ y a;cases a
  |cons z l j=>
   intro k h y a;rcases List.mem_cons.1 a with rfl|a
   ·obtain⟨m,s⟩:=y
    have d:=h.1.1;rw[show nx Md.tm n k= .am by simp[nx,h2]]at d;simp only[cnt]at d;split at d
    ·rename_i g
     exact⟨g.1,g.2,List.length_eq_zero_iff.1 (JB d).symm⟩
    ·cases d
   ·exact j _ h.2 y a
 have b:=c o 0 f;refine⟨?_,Uo,Uo,λk e=>⟨(b k e).1,(b k e).2.1⟩⟩;simp only[row]
 congr 1
 have:∀(l:List Tr),(∀y∈l,y.ks=[]) ->rows l=l.map (·.n):=by
  intro l
  induction l with
  |nil=>intro _;rfl
  |cons y l j=>
   intro h;obtain⟨m,s⟩:=y;have:s=[]:=h (.mk m s) Ud;subst this;simp only[rows,row,List.map_cons,Tr.n];rw[j λy a=>h y (by simp[a])]
   rfl
 exact this o λy a=>(b y a).2.2
def placesM(x:Tr):List Int:=x.ks.map (·.n.a)
end
def zJ(C:Mem)(w:World)(bj:Nat)(B:ak)(c:Ctx)(n er:Int):Prop:=∃v1 v2 v3 v4,Bk w.heap bj [iV B.vars,v1,v2,iV B.nat,v3,v4,iV n,iV er] 274/\SV rOr C B.orders v1/\SV rEn C B.ents v2/\SV rPr C B.prims v3/\SV rBd C (c.map aE) v4
def ip(B:ak)(f g:Tr)(under:Bool):Bool:=decide (f.n.a=g.n.a) && (gb B.vars B.orders (bq f) (bq g) && (under||gb B.vars B.orders (bq g) (bq f)))
abbrev RcC:=Ctx ->Tr ->Tr ->Bool ->Nat ->Except Int (Bool×Nat)
def gz(m:Except Int (Bool×Nat))(k:Nat ->Except Int (Bool×Nat)):Except Int (Bool×Nat):=match m with
 | .error e=>.error e
 | .ok q=>if q.1=true then k q.2 else .ok (false,q.2)
def di(rc:RcC)(cx:Ctx):List Tr ->List Tr ->Nat ->Except Int (Bool×Nat)
 |x::r,y::s,n=>gz (rc cx x y false n) (di rc cx r s)
 |_,_,n=>.ok (true,n)
def bv(f:Tr):Ctx:=(List.range f.n.b.toNat).map λi=>(aG (kidD f (2*i)) i 0,none)
def eo(rc:RcC)(cx cx':Ctx):List Tr ->List Tr ->Nat ->Except Int (Bool×Nat)
 |x::a::r,y::b::s,n=>gz (rc cx x y false n) λn=>gz (rc cx' a b false n) (eo rc cx cx' r s)
 |_,_,n=>.ok (true,n)
def mS(rc:RcC)(cx:Ctx)(f g:Tr)(n:Nat):Except Int (Bool×Nat):=
 if placesM f=placesM g then eo rc cx (cx++bv f) (kidsT f) (kidsT g) n else .ok (false,n)
def je(B:ak)(rc:RcC)(cx:Ctx)(f g:Tr)(under:Bool)(n:Nat):Except Int (Bool×Nat):=
 if f.n.op=2 then .ok (ip B f g under,n)
 else if f.n.op=4 then gz (rc cx (kidD f 0) (kidD g 0) false n) (rc (cx++[(kidD f 0,none)]) (kidD f 1) (kidD g 1) under)
 else if f.n.op=5 then gz (rc cx (kidD f 0) (kidD g 0) false n) (rc (cx++[(kidD f 0,none)]) (kidD f 1) (kidD g 1) false)
 else if f.n.op=12 then (if f.n=g.n then mS rc cx f g n else .ok (false,n))
 else if f.n=g.n then di rc cx (kidsT f) (kidsT g) n else .ok (false,n)
def nY(B:ak)(rc:RcC)(cx:Ctx)(x y:Tr)(under:Bool)(n:Nat):Except Int (Bool×Nat):=
 if (headT x).n.op≠(headT y).n.op \/(argsT x).length≠(argsT y).length then .ok (false,n)
 else gz (je B rc cx (headT x) (headT y) under n) (di rc cx (argsT x) (argsT y))
def df(B:ak):Nat ->RcC
 |0,_,_,_,_,_=>.error 10
 |g+1,cx,x,y,u,n=>if n=0 then .error 10 else if row x=row y then .ok (true,n-1)else if 256<cx.length then .error 5
  else match eg B cx x ((n-1:Nat):Int)with
   | .error e=>.error e
   | .ok p=>match eg B cx y (p.2:Int)with
    | .error e=>.error e
    | .ok q=>nY B (df B g) cx p.1 q.1 u q.2
section
variable{B:ak}{cx:Ctx}
theorem pq':∀(g:Nat) (x:Tr) (room:Int) (n:Nat) (q:Tr×Nat),cz B cx g x room n= .ok q ->q.2<=n
 |0,x,room,n,q,h=>by cases h
 |g+1,x,room,n,q,h=>by
  simp only[cz]at h;have b:∀p,jb B cx (cz B cx g) room p= .ok q ->q.2<=p.2:=λp h=>by
   unfold jb at h;split at h
   ·split at h
    ·cases h
    ·cases c:gR B cx p.1 with
     |error e=>rw[c]at h;cases h
     |ok z=>
      rw[c]at h;simp only at h;split at h
      ·cases h
      ·have:=pq' g _ _ _ _ h
       omega
   ·injection h with h
    subst h;exact KJ _
  cases a:ja (cz B cx g) x room n with
  |error e=>rw[a]at h;cases h
  |ok p=>
   rw[a]at h;have d:=b p h;unfold ja at a;split at a
   ·injection a with a
    subst a;exact d
   ·split at a
    ·cases a
    ·rename_i f
     injection a with a
     subst a;have:=pq' g _ _ _ _ f;exact KQ d this
theorem sH{x:Tr}{n:Nat}{q:Tr×Nat}(h:eg B cx x (n:Int)= .ok q):q.2<=n:=by
 have:=pq' _ _ _ _ _ h;unfold bK at this;omega
def nZ(rc:RcC):Prop:=∀cx x y u n q,rc cx x y u n= .ok q ->q.2<=n
theorem qo{m:Except Int (Bool×Nat)}{k:Nat ->Except Int (Bool×Nat)}{n:Nat}{q:Bool×Nat}(hm:∀q,m= .ok q ->q.2<=n)(b:∀i q,k i= .ok q ->q.2<=i)(h:gz m k= .ok q):q.2<=n:=by
 unfold gz at h;split at h
 ·cases h
 ·rename_i p
  have a:=hm p rfl;split at h
  ·exact KQ (b _ _ h) a
  ·injection h with h
   subst h;exact a
theorem zK{a:RcC}(hr:nZ a):∀(xs ys:List Tr) (n:Nat) (q:Bool×Nat),di a cx xs ys n= .ok q ->q.2<=n
 |x::r,y::s,n,q,h=>qo (λq=>hr _ _ _ _ _ q) (λi q=>zK hr r s i q) h
 |[],ys,n,q,h=>by simp only[di,Except.ok.injEq]at h;subst h;exact KJ _
 |x::r,[],n,q,h=>by simp only[di,Except.ok.injEq]at h;subst h;exact KJ _
theorem Fh{d:RcC}(hr:nZ d){c:Ctx}:∀(xs ys:List Tr) (n:Nat) (q:Bool×Nat),eo d cx c xs ys n= .ok q ->q.2<=n
 |x::a::r,y::b::s,n,q,h=>qo (λq=>hr _ _ _ _ _ q) (λi q h=>qo (λq=>hr _ _ _ _ _ q) (λi q=>Fh hr r s i q) h) h
 |[],ys,n,q,h=>by simp only[eo,Except.ok.injEq]at h;subst h;exact KJ _
 |[x],ys,n,q,h=>by simp only[eo,Except.ok.injEq]at h;subst h;exact KJ _
 |x::a::r,[],n,q,h=>by simp only[eo,Except.ok.injEq]at h;subst h;exact KJ _
 |x::a::r,[y],n,q,h=>by simp only[eo,Except.ok.injEq]at h;subst h;exact KJ _
theorem Fi{a:RcC}(hr:nZ a){f g:Tr}{u:Bool}{n:Nat}{q:Bool×Nat}(h:je B a cx f g u n= .ok q):q.2<=n:=by
 unfold je at h;split at h
 ·injection h with h;subst h;exact KJ _
 split at h
 ·exact qo (λq=>hr _ _ _ _ _ q) (λi q=>hr _ _ _ _ _ q) h
 split at h
 ·exact qo (λq=>hr _ _ _ _ _ q) (λi q=>hr _ _ _ _ _ q) h
 split at h
 ·split at h
  ·unfold mS at h
   split at h
   ·exact Fh hr _ _ _ _ h
   ·injection h with h;subst h;exact KJ _
  ·injection h with h;subst h;exact KJ _
 split at h
 ·exact zK hr _ _ _ _ h
 ·injection h with h;subst h;exact KJ _
theorem Ma{a:RcC}(hr:nZ a){f g:Tr}{u:Bool}{n:Nat}{q:Bool×Nat}(h:nY B a cx f g u n= .ok q):q.2<=n:=by
 unfold nY at h;split at h
 ·injection h with h;subst h;exact KJ _
 ·exact qo (λq=>Fi hr) (λi q=>zK hr _ _ _ _) h
theorem lK(B:ak):∀g,nZ (df B g)
 |0,cx,x,y,u,n,q,h=>by cases h
 |g+1,cx,x,y,u,n,q,h=>by
  simp only[df]at h;split at h
  ·cases h
  split at h
  ·injection h with h;subst h;simp
  split at h
  ·cases h
  split at h
  ·cases h
  rename_i p b;split at h
  ·cases h
  rename_i c a;have h1:=sH b;have d:=sH a;have e:=Ma (lK B g) h;omega
end
def zL(X:List Nat)(w:World)(bj:Nat)(B:ak)(cx:Ctx)(r:Except Int (Bool×Nat))(e:Ending)(w':World):Prop:=
 (match r with
  | .ok q=>e= .returned (.bool q.1)/\zJ (Im X w') w' bj B cx q.2 0
  | .error er=>e= .returned (.bool false)/\er≠0/\∃m:Int,zJ (Im X w') w' bj B cx m er)/\Kp [bj] w w'
def Fj(B:ak)(g:Nat)(rc:RcC):Prop:=∀(X:List Nat) (w:World) (bj:Nat) (cx:Ctx) (x y:Tr) (u:Bool) (n:Nat) (vx vy:Value),(XL X w) ->bj∈X ->CxOk B cx ->cx.length<=260 ->zJ (Im X w) w bj B cx n 0 ->
 Ft (QB B) (cx.length:Int) x ->Ft (QB B) (cx.length:Int) y ->n<=g ->n<=100000 ->TmV (Im X w) x vx ->TmV (Im X w) y vy ->
 CC 225 #[pt bj,vx,vy,.bool u] w (zL X w bj B cx (rc cx x y u n))
theorem CxOk.app{B:ak}{c mo:Ctx}(h:CxOk B c)(hm:∀(i:Nat) q,mo[i]?=some q ->Ft (QB B) ((c.length+i:Nat):Int) q.1/\∀x,q.2=some x ->Ft (QB B) ((c.length+i:Nat):Int) x):CxOk B (c++mo):=λi q a=>by
 by_cases b:i<c.length
 ·rw[QH b]at a
  exact h i q a
 ·rw[QU Uo]at a
  have:=hm _ q a
  rwa [show c.length+(i-c.length)=i by omega]at this
theorem iL{Q:Nd ->Prop}{N:Int}{x:Tr}(h:Ft Q N x)(a:x.n.op=12){i:Nat}(hi:i<x.n.b.toNat):
  (kidsT x)[2*i]?=some (kidD x (2*i))/\(kidsT x)[2*i+1]?=some (kidD x (2*i+1))/\Ft Q N (kidD x (2*i))/\Ft Q (N+x.n.b) (kidD x (2*i+1)):=by
 have j:=gu h.ok a;obtain⟨d,b⟩:=h.kidD (k:=2*i) Uo;obtain⟨e,c⟩:=h.kidD (k:=2*i+1) Uo;have f:kb x.n (2*i)=0:=by unfold kb;rw[KX a,KY Uo]
 have g:kb x.n (2*i+1)=x.n.b:=by unfold kb;rw[KX a,KX Uo]
 rw[f,Int.add_zero]at b;rw[g]at c;exact⟨d,e,b,c⟩
theorem zM{f:Tr}{i:Nat}(hi:i<f.n.b.toNat):(bv f)[i]?=some (aG (kidD f (2*i)) i 0,none):=by
 unfold bv;rw[JX,List.getElem?_range hi]
 rfl
theorem qp(f:Tr):(bv f).length=f.n.b.toNat:=by simp[bv]
theorem pb{B:ak}{cx:Ctx}{f:Tr}(h:CxOk B cx)(k:cx.length<=90000)(e:Ft (QB B) (cx.length:Int) f)(a:f.n.op=12):CxOk B (cx++bv f):=by
 have l:=dZ e.ok a;refine h.app λi q c=>?_;have d:=aL c;rw[qp]at d;rw[zM d]at c;obtain rfl:=JB c;obtain⟨_,_,g,_⟩:=iL e a d;have:=g.lift (qk B) (b:=(i:Int)) Uo Uo Uo;exact⟨by simpa using this,λx j=>by cases j⟩
theorem zN{Q:Nd ->Prop}{N:Int}{x:Tr}(h:Ft Q N x)(h1:x.n.op≠4/\x.n.op≠5/\x.n.op≠7/\x.n.op≠12):∀y∈kidsT x,Ft Q N y:=by
 intro y a;obtain⟨i,b⟩:=JH a;obtain⟨n,c⟩:=x;have:=h.kid b;simp only[Tr.n]at h1;have e:kb n i=0:=by simp[kb,bi,h1]
 rwa [e,Int.add_zero]at this
section
variable{B:ak}{cx:Ctx}
theorem rf':∀(g:Nat) (x:Tr) (room:Int) (n:Nat) (q:Tr×Nat),cz B cx g x room n= .ok q ->cD B cx q.1=false
 |0,x,room,n,q,h=>by cases h
 |g+1,x,room,n,q,h=>by
  simp only[cz]at h;cases a:ja (cz B cx g) x room n with
  |error e=>rw[a]at h;cases h
  |ok p=>
   rw[a]at h;simp only at h;unfold jb at h;split at h
   ·split at h
    ·cases h
    ·cases b:gR B cx p.1 with
     |error e=>rw[b]at h;cases h
     |ok z=>
      rw[b]at h;simp only at h;split at h
      ·cases h
      ·exact rf' g _ _ _ _ h
   ·rename_i hr
    injection h with h
    subst h
    simpa using hr
theorem vF(c:GoodB B)(a:CxOk B cx)(d:cx.length<=90000){x:Tr}{f:Int}{q:Tr×Nat}(b:Ft (QB B) (cx.length:Int) x)(h:eg B cx x f= .ok q):Ft (QB B) (cx.length:Int) q.1/\(headT q.1).n.op≠7:=by
 have i:=b.len;obtain⟨q1,e⟩:=q;refine⟨(pP c a d GW x 4096 _ q1 e b (by unfold len;omega) Uo h).1,λg=>?_⟩;have:=rf' _ _ _ _ _ h;unfold cD at this;simp[g]at this
end
section
variable{B:ak}
@[irreducible] def GC:Nat:=100000
theorem EW':100000<=GC:=by unfold GC;exact KJ _
def lL(B:ak)(cx:Ctx)(x y:Tr)(fuel:Int)(u:Bool):Except Int (Bool×Nat):=df B GC cx x y u (bK fuel)
end
section
variable{C:Mem}{w:World}
theorem Mb(i:Sub C w)(l:List Int)(a:Option Addr)(c:Nat)(hl:Sl wG' C a l)(h:l.length<=1000000):
  CC 227 #[.slice a l.length c] w (λe w'=>(∃v,e= .returned v/\Own wG' 250 w.heap.size w' v l)/\Kp [] w w'):=by
 refine oF func227 ?_;refine cO (args:=[_]) 8 [.tmp 2] τok func227 ?_;refine Cq τok rfl ?_;cases a with
 |none=>
  obtain rfl:=hl.none_nil;exact⟨⟨_,rfl,Own.nil _ _ (KJ _)⟩,Kp.refl _ _⟩
 |some a=>
  refine fill [] rfl<|fD λn o j b k d=>?_;refine(Own.empty wG' b (lo:=w.heap.size) Uo).apF τok rfl rfl UO Hk' (i.tr d) l hl (by simp only[JU];omega) (by simp only[JU,maxLen];omega) λm p f g _=>?_;rw[List.nil_append]at f;exact⟨⟨m,rfl,f⟩,d.own g (Own.empty wG' b (lo:=w.heap.size) Uo)⟩
def bW(m:List Int)(v:Int):Int:=if (m.length:Int)<=v then 0 else m.getD (m.length-1-v.toNat) 0
def jz(x:Tr)(m:List Int):Bool:=decide ((headT x).n.op=1) && decide (bW m (headT x).n.a=2)
end
abbrev RcF:=Tr ->List Int ->Bool
def gA(rc:RcF):Nat ->Tr ->List Int ->Bool
 |0,t,m=>rc t m
 |n+1,t,m=>if t.n.op=5 then rc (kidD t 0) m && gA rc n (kidD t 1) (m++[2])else rc t m
def pc(s:Tr)(m:List Int):Bool:=
 let v:=if (headT s).n.op=1 then bW m (headT s).n.a else 0
 decide (v=2)||(decide (v=1) && decide ((argsT s).length=0))
def mU(B:ak)(rc:RcF)(a:Int)(down:Bool)(m:List Int):Nat ->List Tr ->Bool
 |_,[]=>true
 |k,t::r=>gA rc (if down && decide (k<(ax B a).ctors.length)then ((ax B a).ctors.getD k default).args.length else 0) t m && mU B rc a down m (k+1) r
def lM(B:ak)(rc:RcF)(f:Tr)(m:List Int):Bool:=
 (rc (kidD f 0) m && rc (kidD f 1) m) && mU B rc f.n.a (pc (kidD f 1) m) m 0 ((kidsT f).drop 2)
def lN(rc:RcF)(m m':List Int):List Tr ->Bool
 |t::b::r=>(rc t m && rc b m') && lN rc m m' r
 |_=>true
def fj(B:ak)(pl:List Int):Nat ->RcF
 |0,_,_=>false
 |g+1,x,m=>
  let f:=headT x
  (argsT x).all (λy=>fj B pl g y m) &&
  (if f.n.op=1 then (if bW m f.n.a<100 then true else decide (pl.getD (bW m f.n.a-100).toNat 0<(argsT x).length) && jz (fJ x (pl.getD (bW m f.n.a-100).toNat 0)) m)
  else if f.n.op=11 then lM B (fj B pl g) f m
  else if f.n.op=4 \/f.n.op=5 then fj B pl g (kidD f 0) m && fj B pl g (kidD f 1) (m++[0])
  else if f.n.op=7 then (fj B pl g (kidD f 0) m && fj B pl g (kidD f 1) m) && fj B pl g (kidD f 2) (m++[0])
  else if f.n.op=12 then lN (fj B pl g) m (m++List.replicate f.n.b.toNat 0) (kidsT f)
  else true)
def Mk(pl m:List Int):Prop:=∀v∈m,v=0 \/v=1 \/v=2 \/∃j:Nat,j<pl.length/\v=100+j
theorem Mk.snoc{pl m:List Int}(h:Mk pl m){v:Int}(b:v=0 \/v=1 \/v=2):Mk pl (m++[v]):=λu a=>by
 rcases List.mem_append.1 a with a|a
 ·exact h u a
 ·obtain rfl:u=v:=by simpa using a
  rcases b with h|h|h
  ·exact .inl h
  ·exact .inr (.inl h)
  ·exact .inr (.inr (.inl h))
theorem Mk.zeros{pl m:List Int}(h:Mk pl m)(k:Nat):Mk pl (m++List.replicate k 0):=λu a=>by
 rcases List.mem_append.1 a with a|a
 ·exact h u a
 ·exact .inl (List.mem_replicate.1 a).2
theorem Mk.of{pl m:List Int}(h:Mk pl m){v:Int}(b:0<=v):bW m v<100 \/∃j:Nat,j<pl.length/\bW m v=100+j:=by
 unfold bW;split
 ·left;omega
 ·rename_i g
  obtain⟨x,a,_⟩:=az (l:=m) (k:=m.length-1-v.toNat);rw[QK,a];rcases h x (JQ a)with h|h|h|h
  ·left;simp only[Option.getD_some];omega
  ·left;simp only[Option.getD_some];omega
  ·left;simp only[Option.getD_some];omega
  ·exact .inr h
def Mc(C:Mem)(B:ak)(pl:List Int)(v:Value):Prop:=∃v1 v2 v3 v4,v= .agg #[iV B.vars,v1,v2,iV B.nat,v3,v4]/\SV rOr C B.orders v1/\SV rEn C B.ents v2/\SV rPr C B.prims v3/\SV wG' C pl v4
def zO(B:ak)(pl:List Int)(g:Nat)(rc:RcF):Prop:=∀(C:Mem) (w:World) (N:Int) (x:Tr) (m:List Int) (lv vx vm:Value),Sub C w ->Mc C B pl lv ->Ft (QB B) N x ->Mk pl m ->m.length+4*(row x).length<=100000 ->(row x).length<=g ->TmV C x vx ->SV wG' C m vm ->
 CC 228 #[lv,vx,vm] w (λe w'=>e= .returned (.bool (rc x m))/\Kp [] w w')
theorem Fk{x:Tr}(f:Ok .tm x)(a:x.n.op=11){k:Nat}(h:k<x.ks.length):x.ks[k]?=some (kidD x k)/\Ok .tm (kidD x k)/\row x=(x.n::rows (x.ks.take k))++(row (kidD x k)++rows (x.ks.drop (k+1)))/\(rows (x.ks.take (k+1))).length=(rows (x.ks.take k)).length+(row (kidD x k)).length:=by
 obtain⟨c,_⟩:=gP f a;obtain⟨y,b,_⟩:=az h;have e:kidD x k=y:=by simp[kidD,c,b]
 rw[e];refine⟨b,?_,Jl b,?_⟩
 ·obtain⟨n,g⟩:=x
  obtain⟨l,d,i⟩:=f.kids;refine⟨?_,dD' g k y i b⟩;have:=iW g 0 k y d b;have a:n.op=11:=a;have j:nx Md.tm n (0+k)= .tm:=by simp[nx,a]
  rwa [j]at this
 ·rw[dP b,de']
  simp[rows]
end Go.Q
