import Derived.Test.YtjnjbghlemiklaaGreatMq12
set_option linter.unusedVariables false
set_option linter.unusedSimpArgs false
set_option linter.unusedSectionVars false
set_option maxRecDepth 100000
set_option maxHeartbeats 4000000
open Go.Proofs.Tryz
namespace Go.Proofs.YtjnjbghlemiklaaGreat
open Go.Wx Cd Tm Lv
section
variable{B:aq}{cx:Ctx}{t:Tr}{n g:Nat}{rc:RcJ}
variable(hI:BoI B)(hB:GoodB B)
include hI hB
theorem Lr(hcx:CxOk B cx)(hcl:cx.length<=256){n:Nat}{a:Int}(ha:bI B B.ents.length a=true){A:List Tr}(K:∀y∈A,Ft (QB B) (cx.length:Int) y)(a5:A.length=(gH B a).length){m:Tr}(hm:Ft (QB B) (cx.length:Int) m):
  iQ prog 154 132 (dm B n) [aG (cx.map aA),pI a,bw (A.map row),ah (row m)] (dn B pI (oV B cx a A m n)):=by
 obtain⟨i0,x,s,ps,qi,ei,_,hi,b2,hF⟩:=hB.fam ha (KJ _);obtain⟨e1,e2,e3⟩:=hF.ps_eq hi;rw[<- ei]at e1 e2 e3;have b1:=jS hB ha;generalize E:oV B cx a A m n=C;unfold oV at E;rw[e2]at E;rw[e1]at a5;have b3:=hF.lp;have b4:=hF.li;have l4:=ak (λt=>[ah t]) x.indices;have l5:=congrArg List.length hF.indices;rw[List.length_map]at l5;have l6:=ak (λt=>[ah t]) (A.map row);have l7:=ak row A;obtain⟨np,b5⟩:∃k,ps.length=k:=⟨_,rfl⟩
 obtain⟨z,a6⟩:∃k,qi.length=k:=⟨_,rfl⟩
 rw[a6]at E;refine aX (r:=dn B pI C) 148 [.tmp 10] τok func154 ?_;refine aj τok<|vm (p:=aQ) i0 hi ?_ (hi:=ei);refine az τok (σ:=Nat×Ctx×Tr×Nat) [(0,_),(2,_),(3,_),(11,_),(12,_)] [(11,_)] (λq=>[(1,vP (aG (q.2.1.map aA))),(4,vP (ah (row q.2.2.1))),(13,vI q.1)]) (λq=>[(0,.st 1 132 ((dm B q.2.2.2).map .p))])
  (λq=>q.1<=z+1/\CxOk B q.2.1/\(q.2.1.length=cx.length+q.1/\q.2.1.length<=257)/\Ft (QB B) (q.2.1.length:Int) q.2.2.1/\q.2.2.2<=n/\ie B a A z (z+1-q.1) q.1 q.2.1 q.2.2.1 q.2.2.2=C) (λq=>z+1-q.1) (0,cx,m,n) ⟨KV _,hcx,⟨rfl,by show cx.length<=257;omega⟩,hm,KJ _,E⟩ ?_
 clear E hm
 rintro⟨i,u,mm,n1⟩ ⟨a7,D,⟨a8,a0⟩,fm,a9,d⟩;simp only at a7 D a8 a0 fm a9 d;have hW:=re hI hB D Oo fm n1;refine aj τok<|ae (λg5=>?_) (λg5=>?_)
 ·have g5:(i:Int)<=((x.indices.map λt=>[ah t]).length:Int):=g5
  rw[show z+1-i=(z-i)+1 by omega]at d;simp only[ie]at d;cases R:dH B u mm n1 with
  |error e=>
   rw[R]at hW d;have d:.error e=C:=d;subst d;refine cD hW ?_;exact rfl
  |ok q=>
  obtain⟨f,M⟩:=q;obtain⟨ci,S,ff⟩:=iG hB D fm R;simp only at ff S;have fh:=ff.head;have H:=aB fh;have l1:=ak (λt=>[ah t]) ((argsT f).map row);have l2:=ak row (argsT f);rw[R]at hW d;have d:(if (headT f).n.op≠4 \/0<(argsT f).length then .error 16 else bg (cY (iZ B a A i z) M) λw n=>bg (fR B u (kidD (headT f) 0) w false n) λb n=>if b=true then ie B a A z (z-i) (i+1) (u++[(kidD (headT f) 0,none)]) (kidD (headT f) 1) n else .error 16)=C:=d;refine ax hW ?_;refine vm (p:=ndP) 0 (aJ H) ?_;refine ae (λI=>?_) (λI=>?_)
  ·rw[if_pos (.inl I)]at d
   subst d;refine bO (ee OO) ?_;exact rfl
  have I:(headT f).n.op=4:=Decidable.of_not_not I;refine ae (λF=>?_) (λF=>?_)
  ·have F:((((argsT f).map row).map λt=>[ah t]).length:Int)>0:=F
   rw[if_pos (.inr Oo)]at d;subst d;refine bO (ee OO) ?_;exact rfl
  have F:¬ ((((argsT f).map row).map λt=>[ah t]).length:Int)>0:=F;rw[if_neg Oo]at d;obtain⟨fl,f0,f1⟩:=dU fh (.inl I);refine ae (λg7=>?_) (λg7=>?_)
  ·have g7:(i:Int)<((x.indices.map λt=>[ah t]).length:Int):=g7
   obtain⟨q0,T,_⟩:=ay (l:=qi) (k:=i);have a':(ji B a).getD i (varX 0)=q0:=by rw[e2,List.getD_eq_getElem?_getD,T];rfl
   have a1:Ft (QB B) ((cx.length:Int)+A.length+i) q0:=(hF.up_i hB hi T).mono Oo;have N:=Lf (qk B) Oo Oo (bU:=(i:Int)) Oo K Oo a1;have U:iZ B a A i z=cG A (i:Int) A.length q0:=by
    unfold iZ;rw[if_pos Oo,a']
   rw[U]at d;refine vm (p:=rP) i (x:=row q0) (by rw[hF.indices,JX,T];rfl) ?_;cases Q:cG A (i:Int) A.length q0 with
   |error e=>
    rw[Q]at N d;have d:.error e=C:=d;subst d;refine bO N ?_;exact rfl
   |ok w=>
    have fw:=xM (qk B) (bU:=(i:Int)) Oo Oo Oo Oo K A.length q0 w (KJ _) Oo a1 Q;rw[Q]at N d;have d:bg (fR B u (kidD (headT f) 0) w false M) (λb n=>if b=true then ie B a A z (z-i) (i+1) (u++[(kidD (headT f) 0,none)]) (kidD (headT f) 1) n else .error 16)=C:=d;refine af (r:=ah (row w)) N ?_;have fw:Ft (QB B) (u.length:Int) w:=fw.mono Oo;refine af (hY fh) ?_;refine vm (p:=rP) 0 (aF H) ?_;have O:=yL hI hB D Oo f0 fw M false;cases V:fR B u (kidD (headT f) 0) w false M with
    |error e=>
     rw[V]at O d;have d:.error e=C:=d;subst d;refine cD O ?_;exact rfl
    |ok q=>
     obtain⟨b,n3⟩:=q;have W:=(oX V).2;simp only at W;rw[V]at O d;refine ax O ?_;cases b with
     |false=>
      have d:.error 16=C:=d;subst d;refine bO (ee OO) ?_;exact rfl
     |true=>
      have d:ie B a A z (z-i) (i+1) (u++[(kidD (headT f) 0,none)]) (kidD (headT f) 1) n3=C:=d;refine vm (p:=rP) 0 (aF H) ?_;refine af (mY D Oo f0 (o:=none) λx Y=>by cases Y) ?_;refine vm (p:=rP) 1 (aF H) ?_;refine vk ?_;refine vi ?_;have Z:Ft (QB B) ((u++[(kidD (headT f) 0,none)]).length:Int) (kidD (headT f) 1):=by rw[bL];exact f1.mono Oo
      exact au (i+1,u++[(kidD (headT f) 0,none)],kidD (headT f) 1,n3) ⟨OS,D.snoc f0 (λx Y=>by cases Y),by rw[bL];omega,Z,OS,by simp only;rw[show z+1-(i+1)=z-i by omega];exact d⟩
  ·have g7:¬ (i:Int)<((x.indices.map λt=>[ah t]).length:Int):=g7
   have U:iZ B a A i z=aK (.mk ⟨9,a,0⟩ []) (A.map (λp=>aH p z 0)++varsM z 0):=by
    unfold iZ;rw[if_neg Oo]
   rw[U]at d;have a2:Ft (QB B) (u.length:Int) (.mk ⟨9,a,0⟩ []):=nR (by simp[aw,aE];omega) (.inl rfl) (by
    simp only[QB,bV,aT];simp[ha])
   have a3:∀y∈A.map (λp=>aH p (z:Int) 0)++varsM z 0,Ft (QB B) (u.length:Int) y:=λy hy=>by
    rcases List.mem_append.1 hy with hy|hy
    ·obtain⟨p,hp,rfl⟩:=List.mem_map.1 hy
     exact((K p hp).lift (qk B) (b:=(z:Int)) Oo Oo Oo).mono Oo
    ·exact(kC (qk B) Oo Oo y hy).mono Oo
   have b0:(varsM z 0).length=z:=by simp[varsM]
   have c1:(((x.indices.map λt=>[ah t]).length:Nat):Int)=(z:Int):=Oo
   show VCode _ _ _ _ _;refine cV 17 1000 29 1 rfl rfl<|az τok (σ:=Nat) [(0,_),(1,_),(2,_),(3,_),(11,_),(12,_),(13,_),(14,_),(69,_),(70,_)] [(0,_),(11,_)] (λj=>[(17,.c (.row 1000)),(71,vI j)]) (λj=>[(1000,.rw 29 1 ((((A.take j).map λp=>aH p (z:Int) 0).map row).map rP))]) (λj=>j<=A.length) (λj=>A.length-j) 0 (KV _) ?_;intro j hj;have ej:(A.take j).length=j:=by rw[List.length_take];omega
   refine aj τok<|ae (λg8=>?_) (λg8=>?_)
   ·have g8:(j:Int)<(((A.map row).map λt=>[ah t]).length:Int):=g8
    obtain⟨p,hp,_⟩:=ay (l:=A) (k:=j);have fp:=K p (JQ hp);have a4:=kt fp Oo (b:=(z:Int)) Oo;rw[<- c1]at a4;refine vm (p:=rP) j (x:=row p) (by rw[JX,hp];rfl) ?_;refine af a4 ?_;refine af (eN _) ?_;refine aV ?_ (hb:=OK);refine vi ?_;exact au (j+1) (by show j+1<=_;omega) (sw 1000 83) (y':=⟨congrArg (λl=>some (SE.rw _ _ l)) (by
     rw[dA hp,List.map_append,List.map_append,List.map_append,c1]
     rfl),trivial⟩)
   have g8:¬ (j:Int)<(((A.map row).map λt=>[ah t]).length:Int):=g8;obtain rfl:j=A.length:=Oo
   rw[List.take_length];have ev:∀k,k<z ->(varsM z 0)[k]?=some (varX (0+((z-1-k:Nat):Int))):=λk hk=>by
    unfold varsM;rw[JX,List.getElem?_range hk]
    rfl
   refine vi ?_;refine az τok (σ:=Nat×Int) [(0,_),(1,_),(2,_),(3,_),(11,_),(12,_),(13,_),(14,_)] [(0,_),(11,_)] (λq=>[(17,.c (.row 1000)),(20,vI q.2)]) (λq=>[(1000,.rw 29 1 (((A.map λp=>aH p (z:Int) 0).map row).map rP++(((varsM z 0).take q.1).map row).map rP))]) (λq=>q.1<=z/\q.2=(z:Int)-1-q.1) (λq=>z-q.1) (0,(((x.indices.map λt=>[ah t]).length:Nat):Int)-1) ⟨KV _,OS⟩ ?_ (y1:=⟨congrArg (λl=>some (SE.rw 29 1 l)) (by rw[List.take_zero];exact(JD _).symm),trivial⟩);rintro⟨k,v⟩ ⟨hk,hv⟩;simp only at hk hv;have ek:((varsM z 0).take k).length=k:=by rw[List.length_take];omega
   refine aj τok<|ae (λg=>?_) (λg=>?_)
   ·have g:v≥0:=g
    refine aV ?_ (hb:=OK);refine vi ?_;exact au (k+1,v-1) ⟨OS,OS⟩ (sw 1000 96) (y':=⟨congrArg (λl=>some (SE.rw _ _ l)) (by
     rw[dA (ev k Oo),List.map_append,List.map_append,List.append_assoc,show (0:Int)+((z-1-k:Nat):Int)=v by omega]
     rfl),trivial⟩)
   have g:¬ v≥0:=g;obtain rfl:z=k:=Oo
   have P:=rb hB (L:=((A.map λp=>aH p (z:Int) 0).map row).map rP++(((varsM z 0).take z).map row).map rP) a2 a3 (by rw[JK,List.length_map,b0];omega) (by
    rw[JG Oo,List.map_append,List.map_append])
   cases Q:aK (.mk ⟨9,a,0⟩ []) (A.map (λp=>aH p (z:Int) 0)++varsM z 0)with
   |error e=>
    have he:=hO Q;rw[Q]at P d;have d:.error e=C:=d;subst d;refine af P ?_;refine bO (iX _ (show e≠0 by omega)) ?_;exact rfl
   |ok w=>
    have fw:=fL (qk B) a2 a3 Q;rw[Q]at P d;have d:bg (fR B u (kidD (headT f) 0) w false M) (λb n=>if b=true then ie B a A z (z-i) (i+1) (u++[(kidD (headT f) 0,none)]) (kidD (headT f) 1) n else .error 16)=C:=d;refine af P ?_;refine af (eN _) ?_;refine af (hY fh) ?_;refine vm (p:=rP) 0 (aF H) ?_;have O:=yL hI hB D Oo f0 fw M false;cases V:fR B u (kidD (headT f) 0) w false M with
    |error e=>
     rw[V]at O d;have d:.error e=C:=d;subst d;refine cD O ?_;exact rfl
    |ok q=>
     obtain⟨b,n3⟩:=q;have W:=(oX V).2;simp only at W;rw[V]at O d;refine ax O ?_;cases b with
     |false=>
      have d:.error 16=C:=d;subst d;refine bO (ee OO) ?_;exact rfl
     |true=>
      have d:ie B a A z (z-i) (i+1) (u++[(kidD (headT f) 0,none)]) (kidD (headT f) 1) n3=C:=d;refine vm (p:=rP) 0 (aF H) ?_;refine af (mY D Oo f0 (o:=none) λx Y=>by cases Y) ?_;refine vm (p:=rP) 1 (aF H) ?_;refine vk ?_;refine vi ?_;have Z:Ft (QB B) ((u++[(kidD (headT f) 0,none)]).length:Int) (kidD (headT f) 1):=by rw[bL];exact f1.mono Oo
      exact au (i+1,u++[(kidD (headT f) 0,none)],kidD (headT f) 1,n3) ⟨OS,D.snoc f0 (λx Y=>by cases Y),by rw[bL];omega,Z,OS,by simp only;rw[show z+1-(i+1)=z-i by omega];exact d⟩
 have g5:¬ (i:Int)<=((x.indices.map λt=>[ah t]).length:Int):=g5;obtain rfl:i=z+1:=Oo
 rw[Nat.sub_self]at d;simp only[ie]at d;cases R:dH B u mm n1 with
 |error e=>
  rw[R]at hW d;have d:.error e=C:=d;subst d;refine cD hW ?_;exact rfl
 |ok q=>
 obtain⟨f,M⟩:=q;obtain⟨ci,S,ff⟩:=iG hB D fm R;simp only at ff S;have fh:=ff.head;have H:=aB fh;have l1:=ak (λt=>[ah t]) ((argsT f).map row);have l2:=ak row (argsT f);rw[R]at hW d;have d:(if (headT f).n.op≠2 \/0<(argsT f).length then .error 16 else .ok ((headT f).n.a,M))=C:=d;refine ax hW ?_;refine vm (p:=ndP) 0 (aJ H) ?_;refine ae (λI=>?_) (λI=>?_)
 ·rw[if_pos (.inl I)]at d
  subst d;refine bO (ee OO) ?_;exact rfl
 have I:(headT f).n.op=2:=Decidable.of_not_not I;refine ae (λF=>?_) (λF=>?_)
 ·have F:((((argsT f).map row).map λt=>[ah t]).length:Int)>0:=F
  rw[if_pos (.inr Oo)]at d;subst d;refine bO (ee OO) ?_;exact rfl
 have F:¬ ((((argsT f).map row).map λt=>[ah t]).length:Int)>0:=F;rw[if_neg Oo]at d;subst d;refine vm (p:=ndP) 0 (aJ H) ?_;exact eP9
end
section
variable{B:aq}{cx:Ctx}{t:Tr}{n g:Nat}{rc:RcJ}
variable(hI:BoI B)(hB:GoodB B)(hr:cv B rc)(hcx:CxOk B cx)(hcl:cx.length<=260)(ht:Ft (QB B) (cx.length:Int) t)
include hI hB hr hcx hcl ht
theorem Ls(Y:t.n.op=11)(hn:n<=100000)(a3:pf B rc g)(hg:t.n.a.toNat*5000+4096<=g)(hT:∀i,i<(kidsT t).length ->∀n,n<=100000 ->bG B cx (kidD t i) n (rc cx (kidD t i) n)):
  iQ prog 97 132 (dm B n) [aG (cx.map aA),.agg (ndP t.n),bw ((kidsT t).map row)] (dn B gp (jT B rc cx t.n (kidsT t) n)):=by
 obtain⟨lk,b',b8,kf⟩:=qD ht Y;have Z:=aB ht;have ha:=jK ht.node' (.inr Y);obtain⟨i0,x,s,ps,qi,ei,_,hi,Q,K⟩:=hB.fam ha (KJ _);obtain⟨e1,e2,e3⟩:=K.ps_eq hi;rw[<- ei]at e1 e2 e3;generalize c:jT B rc cx t.n (kidsT t) n=f;unfold jT at c;simp only at c;rw[e1,e2,e3,Q]at c;have a4:(kidsT t).getD 0 (varX 0)=kidD t 0:=rfl;have a5:(kidsT t).getD 1 (varX 0)=kidD t 1:=rfl;rw[a4,a5]at c;have c0:=K.lp;have c1:=K.li;have c2:=K.lc;have eK:=ak (λt=>[ah t]) ((kidsT t).map row);have c3:=ak row (kidsT t);have l1:=ak aZ x.ctors;have l2:=ak (λt=>[ah t]) x.params;have l3:=congrArg List.length K.params;have l4:=ak (λt=>[ah t]) x.indices;have l5:=congrArg List.length K.indices;rw[List.length_map]at l3 l5;obtain⟨M,v⟩:∃k,ps.length=k:=⟨_,rfl⟩
 obtain⟨ni,a6⟩:∃k,qi.length=k:=⟨_,rfl⟩
 rw[v,a6]at c;have a7:=(cj Z (k:=0)).1;have a8:=(cj Z (k:=1)).1;have k0:=kf _ (JQ a7);have k1:=kf _ (JQ a8);obtain⟨o,A⟩:∃l,(kidsT t).drop 2=l:=⟨_,rfl⟩
 have c4:o.length=(kidsT t).length-2:=by rw[<- A,List.length_drop]
 have c5:=ak rP (o.map row);have c6:=ak row o;rw[A]at c;have R:∀(l:List Tr) y,y∈((l.map row).map λt=>[ah t]) ->y.length=1:=λl y u=>by
  obtain⟨_,_,rfl⟩:=List.mem_map.1 u
  rfl
 refine aX (r:=dn B gp f) 154 [.tmp 8] τok func97 ?_;refine aC τok<|aC τok<|vm (p:=aQ) i0 hi ?_ (hi:=ei);refine vk ?_;refine aC τok<|vm (p:=rP) 0 (aF Z) ?_;refine vm (p:=rP) 1 (aF Z) ?_;refine bC 2 (kidsT t).length ?_ (R _);have a9:((((kidsT t).map row).map λt=>[ah t]).take (kidsT t).length).drop 2=(o.map row).map rP:=by
  rw[JG Oo,<- List.map_drop,<- List.map_drop,A]
  rfl
 rw[a9];refine vk ?_;refine aC τok ?_;have s1:=hT 1 Oo n hn;unfold bG at s1;cases e4:rc cx (kidD t 1) n with
 |error e=>
  rw[e4]at s1 c;have c:.error e=f:=c;subst c;refine cD s1 ?_;exact rfl
 |ok q=>
 obtain⟨y,m⟩:=q;have fy:=hr.ft _ _ _ _ hcx hcl k1 e4;have hm:=hr.le _ _ _ _ e4;simp only at fy hm;rw[e4,kO]at c;rw[e4]at s1;simp only at c;have hW:=re hI hB hcx hcl fy m;refine ax s1 ?_;cases e5:dH B cx y m with
 |error e=>
  rw[e5]at hW c;have c:.error e=f:=c;subst c;refine cD hW ?_;exact rfl
 |ok q=>
 obtain⟨z,m2⟩:=q;obtain⟨a0,a',V⟩:=iG hB hcx fy e5;simp only at V a';have wh:=aB V.head;have l6:=ak (λt=>[ah t]) ((argsT z).map row);have l7:=ak row (argsT z);have c7:=mV (aB V) 4096 V.len;rw[e5,kO]at c;rw[e5]at hW;simp only at c;refine ax hW ?_;refine aC τok<|vm (p:=ndP) 0 (aJ wh) ?_;have j:(headT z).n.op≠9 \/(headT z).n.a≠t.n.a \/(argsT z).length≠M+ni -> .error 14=f:=λh=>by
  rw[if_pos h]at c;exact c
 refine ae (λg1=>?_) (λg1=>?_)
 ·have:=j (.inl g1)
  subst this;refine vk ?_;refine bO (ee OO) ?_;exact rfl
 refine vm (p:=ndP) 0 (aJ wh) ?_;refine ae (λg2=>?_) (λg2=>?_)
 ·have:=j (.inr (.inl g2))
  subst this;refine vk ?_;refine bO (ee OO) ?_;exact rfl
 refine vi ?_;refine ae (λg3=>?_) (λg3=>?_)
 ·have g3:¬ ((((argsT z).map row).map λt=>[ah t]).length:Int)=((x.params.map λt=>[ah t]).length:Int)+((x.indices.map λt=>[ah t]).length:Int):=g3
  have:=j (.inr (.inr Oo));subst this;refine vk ?_;refine bO (ee OO) ?_;exact rfl
 have g3:¬ ¬ ((((argsT z).map row).map λt=>[ah t]).length:Int)=((x.params.map λt=>[ah t]).length:Int)+((x.indices.map λt=>[ah t]).length:Int):=g3;have c8:(headT z).n.op=9:=Decidable.of_not_not g1;have c9:(headT z).n.a=t.n.a:=Decidable.of_not_not g2;rw[if_neg Oo]at c;refine vk ?_;refine aC τok<|ae (λg4=>?_) (λg4=>?_)
 ·have g4:¬ (((o.map row).map rP).length:Int)=((x.ctors.map aZ).length:Int):=g4
  rw[if_pos Oo]at c;subst c;refine bO (ee OO) ?_;exact rfl
 have g4:¬ ¬ (((o.map row).map rP).length:Int)=((x.ctors.map aZ).length:Int):=g4;rw[if_neg Oo]at c;refine aC τok<|bC 0 M ?_ (R _) rfl (by show ((x.params.map λt=>[ah t]).length:Int)=_;omega);refine bC M (argsT z).length ?_ (R _) (by show ((x.params.map λt=>[ah t]).length:Int)=_;omega) (by show (argsT z).length=(((argsT z).map row).map λt=>[ah t]).length;omega);obtain⟨O,C⟩:∃l,(argsT z).take M=l:=⟨_,rfl⟩
 obtain⟨ix,D⟩:∃l,(argsT z).drop M=l:=⟨_,rfl⟩
 have S:O.length=M:=by rw[<- C,List.length_take];omega
 have T:∀y∈O,Ft (QB B) (cx.length:Int) y:=λy u=>V.args y (List.mem_of_mem_take (by rw[C];exact u));have hiF:∀y∈ix,Ft (QB B) (cx.length:Int) y:=λy u=>V.args y (List.mem_of_mem_drop (by rw[D];exact u));have c':ix.length<=100:=by rw[<- D,List.length_drop];omega
 have b0:((((argsT z).map row).map λt=>[ah t]).take M).drop 0=(O.map row).map rP:=by
  rw[List.drop_zero,<- List.map_take,<- List.map_take,C]
  rfl
 have b1:((((argsT z).map row).map λt=>[ah t]).take (argsT z).length).drop M=(ix.map row).map rP:=by
  rw[JG Oo,<- List.map_drop,<- List.map_drop,D]
  rfl
 rw[b0,b1];rw[C,D]at c;refine vk ?_;refine aC τok ?_;have s0:=hT 0 Oo m2 Oo;unfold bG at s0;cases e6:rc cx (kidD t 0) m2 with
 |error e=>
  rw[e6]at s0 c;have c:.error e=f:=c;subst c;refine cD s0 ?_;refine fY ?_;refine vk ?_;exact rfl
 |ok q=>
 obtain⟨mt,m3⟩:=q;have fm:=hr.ft _ _ _ _ hcx hcl k0 e6;have b2:=hr.le _ _ _ _ e6;simp only at fm b2;rw[e6,kO]at c;rw[e6]at s0;simp only at c;refine ax s0 ?_;have hM:=Lr hI hB hcx a0 (n:=m3) ha T (by rw[S,e1,v]) fm;cases e7:oV B cx t.n.a O mt m3 with
 |error e=>
  rw[e7]at hM c;have c:.error e=f:=c;subst c;refine cD hM ?_;refine fY ?_;refine vk ?_;exact rfl
 |ok q=>
 obtain⟨b9,m4⟩:=q;have d0:m4<=m3:=xV _ _ _ _ _ e7;rw[e7,kO]at c;rw[e7]at hM;simp only at c;refine ax hM ?_;refine vk ?_;refine dB τok (σ:=Nat) [(0,_),(1,_),(6,_),(10,_),(11,_),(12,_),(15,_),(16,_)] [(6,_)] (λ_=>[]) (λm=>[(0,.st 1 132 ((dm B m).map .p))])
  (λm=>m<=n/\bg (kD B rc cx t.n.a O (kidD t 0) 0 o m) (λ_ n=>cY (aK (kidD t 0) (ix++[kidD t 1])) n)=f) ?_ ?_
 ·refine vm (p:=ndP) 0 (x:=s.n) (by rw[K.sort];exact aJ (aB K.fs)) ?_
  refine ae (λW=>?_) (λW=>?_);rotate_left
  ·have W:¬ s.n.a=0:=W
   rw[if_neg Oo,kO]at c;simp only at c;rw[if_neg OO]at c;exact au m4 ⟨Oo,c⟩
  have W:s.n.a=0:=W;refine ae (λg8=>?_) (λg8=>?_);rotate_left
  ·rw[if_neg Oo,kO]at c
   simp only at c;rw[if_neg OO]at c;exact au m4 ⟨Oo,c⟩
  rw[if_pos ⟨W,g8⟩]at c;have E:=Lq hI hB hr a3 (n:=m4) Oo ha hg;cases e8:jk B rc t.n.a m4 with
  |error e=>
   rw[e8]at E c;have c:.error e=f:=c;subst c;refine cD E ?_;exact rfl
  |ok q=>
   obtain⟨b,m5⟩:=q;have U:=xW hB hr e8;simp only at U;rw[e8,kO]at c;rw[e8]at E;simp only at c;refine ax E ?_;cases b with
   |true=>
    rw[if_neg OO]at c;exact au m5 ⟨Oo,c⟩
   |false=>
    rw[if_pos rfl]at c;subst c;refine bO (ee OO) ?_;exact rfl
 clear c
 rintro m5 ⟨U,d⟩;refine aj τok<|az τok (σ:=Nat×Nat) [(0,_),(1,_),(6,_),(10,_),(11,_),(15,_),(16,_),(119,_),(120,_)] [(6,_)] (λq=>[(121,vI q.1)]) (λq=>[(0,.st 1 132 ((dm B q.2).map .p))])
  (λq=>q.1<=o.length/\q.2<=n/\bg (kD B rc cx t.n.a O (kidD t 0) q.1 (o.drop q.1) q.2) (λ_ n=>cY (aK (kidD t 0) (ix++[kidD t 1])) n)=f) (λq=>o.length-q.1) (0,m5) ⟨KV _,U,d⟩ ?_
 clear d
 rintro⟨k,m6⟩ ⟨hk,b3,d⟩;simp only at hk b3 d;refine aj τok<|ae (λg9=>?_) (λg9=>?_)
 ·have g9:(k:Int)<(((o.map row).map rP).length:Int):=g9
  obtain⟨b,hb,b4⟩:=ay (l:=o) (k:=k);have a1:(kidsT t)[2+k]?=some b:=by rw[<- A,List.getElem?_drop]at hb;exact hb
  have b5:kidD t (2+k)=b:=by
   have:=(cj Z (k:=2+k)).1;rw[a1]at this;exact(JB this).symm
  rw[b4]at d;simp only[kD]at d;have fb:=kf _ (JQ a1);have F:=Ld hB (N:=(cx.length:Int)) Oo Oo ha (b:=(k:Int)) Oo (by rw[Q];omega) T (by rw[S,e1,v]) k0;refine vm (p:=rP) k (x:=row b) (by rw[JX,hb];rfl) ?_;cases P:iE B t.n.a (k:Int) O (kidD t 0)with
  |error e=>
   have he:=xQ P;rw[P]at F d;have d:.error e=f:=d;subst d;refine af F ?_;refine bO (iX _ (show e≠0 by omega)) ?_;refine fY ?_;refine vk ?_;exact rfl
  |ok ty=>
   have b6:=C9 hB Oo Oo ha Oo (by rw[Q];omega) T (by rw[S,e1,v]) k0 P;rw[P]at F d;have d:bg (bg (eQ B rc cx b ty m6) λ_ n=>kD B rc cx t.n.a O (kidD t 0) (k+1) (o.drop (k+1)) n) (λ_ n=>cY (aK (kidD t 0) (ix++[kidD t 1])) n)=f:=d;refine af F ?_;refine af (eN _) ?_;have a2:=hT (2+k) Oo m6 Oo;rw[b5]at a2;have hC:=tL hI hB hcx hcl hr fb b6 a2;cases H:eQ B rc cx b ty m6 with
   |error e=>
    rw[H]at hC d;have d:.error e=f:=d;subst d;refine cD hC ?_;refine vk ?_;exact rfl
   |ok q=>
    obtain⟨_,m7⟩:=q;have b7:=(kF hr H).2;simp only at b7;rw[H,kO]at d;rw[H]at hC;refine ax hC ?_;refine vk ?_;refine vi ?_;exact au (k+1,m7) ⟨OS,OS,d⟩
 have g9:¬ (k:Int)<(((o.map row).map rP).length:Int):=g9;rw[List.drop_of_length_le Oo]at d;have d:cY (aK (kidD t 0) (ix++[kidD t 1])) m6=f:=d;refine eV (CO (ys:=ix) (λy u=>⟨(hiF y u).ok,(hiF y u).len⟩) Oo) ?_;refine aV ?_ (hb:=OK);have I:=rb hB (L:=(ix.map row).map rP++[rP (row (kidD t 1))]) k0 (ys:=ix++[kidD t 1]) (λy u=>by
  rcases List.mem_append.1 u with u|u
  ·exact hiF y u
  ·obtain rfl:y=kidD t 1:=by simpa using u
   exact k1) (by rw[JK];simp;omega) (by rw[List.map_append,List.map_append];rfl)
 cases P:aK (kidD t 0) (ix++[kidD t 1])with
 |error e=>
  have he:=hO P;rw[P]at I d;have d:.error e=f:=d;subst d;refine af I ?_;refine bO (iX _ (show e≠0 by omega)) ?_;exact rfl
 |ok w=>
  rw[P]at I d;have d:.ok (w,m6)=f:=d;subst d;refine af I ?_;refine af (eN _) ?_;exact eP9
end
section
variable{B:aq}{cx:Ctx}{t:Tr}{n:Nat}{rc:RcJ}
variable(hI:BoI B)(hB:GoodB B)(hcx:CxOk B cx)(hcl:cx.length<=260)(ht:Ft (QB B) (cx.length:Int) t)
variable(hr:cv B rc)
include hI hB hcx hcl ht hr
theorem Lt(P:t.n.op=7)(S:n<=100000)(q:∀n,n<=100000 ->bG B cx (kidD t 0) n (rc cx (kidD t 0) n))(s:∀n,n<=100000 ->bG B cx (kidD t 1) n (rc cx (kidD t 1) n))(A:cx.length<=256 ->∀n,n<=100000 ->bG B (cx++[(kidD t 0,some (kidD t 1))]) (kidD t 2) n (rc (cx++[(kidD t 0,some (kidD t 1))]) (kidD t 2) n)):bG B cx t n (mM B rc cx t n):=by
 obtain⟨b,a⟩:∃r,mM B rc cx t n=r:=⟨_,rfl⟩
 unfold bG;rw[a];have c:=aB ht;have T:=ak aA cx;refine aX (r:=dn B gp b) 258 [.tmp 6] τok func47 ?_;refine aj τok<|vm (p:=ndP) 0 (aJ c) ?_;refine vn (p:=t.n.op=1) ?_;refine vn (p:=t.n.op=2) ?_;refine vn (p:=t.n.op=8) ?_;refine vn (p:=t.n.op=9) ?_;refine vn (p:=t.n.op=10) ?_;refine af (hY ht) ?_;refine vn (p:=t.n.op=4) ?_;refine vn (p:=t.n.op=5) ?_;refine vn (p:=t.n.op=6) ?_;refine vy (p:=t.n.op=7) ?_ P;obtain⟨Z,d,C,U⟩:=nM ht P;unfold mM at a;have j:=nX hI hB hcx hcl hr d (q n S);refine vm (p:=rP) 0 (aF c) ?_;cases k:dd B rc cx (kidD t 0) n with
 |error e=>
  rw[k]at j a;have a:.error e=b:=a;subst a;refine cD j ?_;exact rfl
 |ok p=>
 obtain⟨⟨V,l1⟩,D⟩:=p;obtain⟨c1,E,_⟩:=gj hB hr k;obtain⟨_,W,Y⟩:=jm hB hr hcx d k;simp only at E W Y;rw[k]at j a;refine ax j ?_;have l:=tL hI hB hcx hcl hr C d (s D Oo);have a:bg (eQ B rc cx (kidD t 1) (kidD t 0) D) (λ_ n=>
  bg (rc (cx++[(kidD t 0,some (kidD t 1))]) (kidD t 2) n) λz n=>cY (bk z (kidD t 1) 0) n)=b:=a
 refine vm (p:=rP) 1 (aF c) ?_;refine vm (p:=rP) 0 (aF c) ?_;cases F:eQ B rc cx (kidD t 1) (kidD t 0) D with
 |error e=>
  rw[F]at a l;have a:.error e=b:=a;subst a;refine cD l ?_;refine vk ?_;exact rfl
 |ok p=>
 obtain⟨_,H⟩:=p;have I:=(kF hr F).2;simp only at I;rw[F]at a l;have Q:∀x,some (kidD t 1)=some x ->Ft (QB B) (cx.length:Int) x:=λx K=>by injection K with K;rw[<- K];exact C
 have f:=hcx.snoc d (v:=some (kidD t 1)) Q;have L:Ft (QB B) ((cx++[(kidD t 0,some (kidD t 1))]).length:Int) (kidD t 2):=by rw[bL];exact U.mono Oo
 have i:=A Oo H Oo;unfold bG at i;have a:bg (rc (cx++[(kidD t 0,some (kidD t 1))]) (kidD t 2) H) (λz n=>cY (bk z (kidD t 1) 0) n)=b:=a;refine ax l ?_;refine vk ?_;refine vm (p:=rP) 0 (aF c) ?_;refine vm (p:=rP) 1 (aF c) ?_;refine af (mY hcx Oo d (o:=some (kidD t 1)) Q) ?_;refine vm (p:=rP) 2 (aF c) ?_;cases M:rc (cx++[(kidD t 0,some (kidD t 1))]) (kidD t 2) H with
 |error e=>
  rw[M]at i a;have a:.error e=b:=a;subst a;refine cD i ?_;refine qd [false,false,false,true,true,true,true,true] ?_;refine vm (p:=rP) 1 (aF c) ?_;refine vk ?_;exact rfl
 |ok p=>
 obtain⟨y,R⟩:=p;have O:=hr.ft _ _ _ _ f (by rw[bL];omega) L M;simp only at O;rw[bL]at O;rw[M]at i a;have a:cY (bk y (kidD t 1) 0) R=b:=a;refine ax i ?_;refine vm (p:=rP) 1 (aF c) ?_;have m:=nN (x:=y) (u:=kidD t 1) (v:=0) (N:=(cx.length:Int)) (O.mono Oo) C Oo Oo;cases q1:bk y (kidD t 1) 0 with
 |error e=>
  have he:=iB q1;rw[q1]at m a;have a:.error e=b:=a;subst a;refine af m ?_;refine bO (iX _ (show e≠0 by omega)) ?_;refine fY ?_;refine vk ?_;exact rfl
 |ok z=>
  rw[q1]at m a;have a:.ok (z,R)=b:=a;subst a;refine af m ?_;refine af (eN _) ?_;exact kP9
end
section
variable{B:aq}{cx:Ctx}{t:Tr}{n g:Nat}{rc:RcJ}
variable(hI:BoI B)(hB:GoodB B)(hcx:CxOk B cx)(hcl:cx.length<=260)(ht:Ft (QB B) (cx.length:Int) t)
variable(hr:cv B rc)
include hI hB hr hcx hcl ht
theorem Lu(b:t.n.op=11)(j:n<=100000)(d:pf B rc g)(k:t.n.a.toNat*5000+4096<=g)(l:∀i,i<(kidsT t).length ->∀n,n<=100000 ->bG B cx (kidD t i) n (rc cx (kidD t i) n)):bG B cx t n (jT B rc cx t.n (kidsT t) n):=by
 have f:=Ls hI hB hr hcx hcl ht b j d k l;obtain⟨c,a⟩:∃r,jT B rc cx t.n (kidsT t) n=r:=⟨_,rfl⟩
 unfold bG;rw[a];have m:=aB ht;refine aX (r:=dn B gp c) 258 [.tmp 6] τok func47 ?_;refine aj τok<|vm (p:=ndP) 0 (aJ m) ?_;rw[a]at f;refine vn (p:=t.n.op=1) ?_;refine vn (p:=t.n.op=2) ?_;refine vn (p:=t.n.op=8) ?_;refine vn (p:=t.n.op=9) ?_;refine vn (p:=t.n.op=10) ?_;refine af (hY ht) ?_;refine vn (p:=t.n.op=4) ?_;refine vn (p:=t.n.op=5) ?_;refine vn (p:=t.n.op=6) ?_;refine vn (p:=t.n.op=7) ?_;refine vy (p:=t.n.op=11) ?_ b;cases c with
 |error e=>
  refine cD f ?_;exact rfl
 |ok q=>
  refine ax f ?_;exact eP9
theorem Lw(c:t.n.op=12)(k:n<=100000)(d:∀i,i<t.n.b.toNat ->∀n,n<=100000 ->bG B cx (kidD t (2*i)) n (rc cx (kidD t (2*i)) n))(f:cx.length<=256 ->∀i,i<t.n.b.toNat ->∀n,n<=100000 ->bG B (cx++bi t) (kidD t (2*i+1)) n (rc (cx++bi t) (kidD t (2*i+1)) n)):bG B cx t n (kE B rc cx t n):=by
 have j:=yN hI hB hr hcx hcl ht c k d f;obtain⟨b,a⟩:∃r,kE B rc cx t n=r:=⟨_,rfl⟩
 unfold bG;rw[a];have l:=aB ht;refine aX (r:=dn B gp b) 258 [.tmp 6] τok func47 ?_;refine aj τok<|vm (p:=ndP) 0 (aJ l) ?_;rw[a]at j;refine vn (p:=t.n.op=1) ?_;refine vn (p:=t.n.op=2) ?_;refine vn (p:=t.n.op=8) ?_;refine vn (p:=t.n.op=9) ?_;refine vn (p:=t.n.op=10) ?_;refine af (hY ht) ?_;refine vn (p:=t.n.op=4) ?_;refine vn (p:=t.n.op=5) ?_;refine vn (p:=t.n.op=6) ?_;refine vn (p:=t.n.op=7) ?_;refine vn (p:=t.n.op=11) ?_;cases b with
 |error e=>
  refine cD j ?_;exact rfl
 |ok q=>
  refine ax j ?_;exact eP9
end
section
variable{B:aq}{g:Nat}{rc:RcJ}
variable(hI:BoI B)(hB:GoodB B)
include hI hB
theorem Lx(hr:cv B rc)(c:pf B rc g):pf B (ig B rc) (g+1):=λcx k t n hcx hcl ht p D b=>by
 have l:=aB ht;have a:∀i,i<(kidsT t).length ->Mt k (kidD t i)/\k*5000+(row (kidD t i)).length<=g:=λi e=>by
  have:=p.kid (JQ (cj l e).1);exact⟨this.1,Oo⟩
 unfold ig;refine Do t ht.ok (λh=>?_) (λh=>?_) (λh=>?_) (λh=>?_) (λh=>?_) (λh=>?_) (λh=>?_) (λh=>?_) (λh=>?_) (λh=>?_) (λh=>?_)
 ·rw[if_pos h]
  exact Lg hI hB hcx hcl ht h
 ·rw[if_neg Oo,if_pos h]
  exact Lh hI hB hcx hcl ht h
 ·rw[if_neg Oo,if_neg Oo,if_pos h]
  exact Li hI hB hcx hcl ht h
 ·rw[if_neg Oo,if_neg Oo,if_neg Oo,if_pos h]
  exact Lj hI hB hcx hcl ht h
 ·rw[if_neg Oo,if_neg Oo,if_neg Oo,if_neg Oo,if_pos h]
  exact Lk hI hB hcx hcl ht h
 ·rw[if_neg Oo,if_neg Oo,if_neg Oo,if_neg Oo,if_neg Oo,if_pos h]
  obtain⟨m,d,f⟩:=dU ht (.inl h);exact Ll hI hB hcx hcl ht hr h b (λn b=>c _ k _ _ hcx hcl d (a 0 Oo).1 (a 0 Oo).2 b) λo n b=>c _ k _ _ (hcx.snoc d λx j=>by cases j) (by rw[bL];omega) (by rw[bL];exact f.mono Oo) (a 1 Oo).1 (a 1 Oo).2 b
 ·rw[if_neg Oo,if_neg Oo,if_neg Oo,if_neg Oo,if_neg Oo,if_neg Oo,if_pos h]
  obtain⟨m,d,f⟩:=dU ht (.inr h);exact Ln hI hB hcx hcl ht hr h b (λn b=>c _ k _ _ hcx hcl d (a 0 Oo).1 (a 0 Oo).2 b) λo n b=>c _ k _ _ (hcx.snoc d λx j=>by cases j) (by rw[bL];omega) (by rw[bL];exact f.mono Oo) (a 1 Oo).1 (a 1 Oo).2 b
 ·rw[if_neg Oo,if_neg Oo,if_neg Oo,if_neg Oo,if_neg Oo,if_neg Oo,if_neg Oo,if_pos h]
  obtain⟨m,d,f⟩:=qA ht h;exact Lo hI hB hcx hcl ht hr h b (λn b=>c _ k _ _ hcx hcl d (a 0 Oo).1 (a 0 Oo).2 b) λn b=>c _ k _ _ hcx hcl f (a 1 Oo).1 (a 1 Oo).2 b
 ·rw[if_neg Oo,if_neg Oo,if_neg Oo,if_neg Oo,if_neg Oo,if_neg Oo,if_neg Oo,if_neg Oo,if_pos h]
  obtain⟨m,d,f,r⟩:=nM ht h;exact Lt hI hB hcx hcl ht hr h b (λn b=>c _ k _ _ hcx hcl d (a 0 Oo).1 (a 0 Oo).2 b) (λn b=>c _ k _ _ hcx hcl f (a 1 Oo).1 (a 1 Oo).2 b) λo n b=>c _ k _ _ (hcx.snoc d λx j=>by injection j with j;rw[<- j];exact f) (by rw[bL];omega) (by rw[bL];exact r.mono Oo) (a 2 Oo).1 (a 2 Oo).2 b
 ·rw[if_neg Oo,if_neg Oo,if_neg Oo,if_neg Oo,if_neg Oo,if_neg Oo,if_neg Oo,if_neg Oo,if_neg Oo,if_pos h]
  obtain⟨s,u,v,y⟩:=qD ht h;have z:=(jS hB (jK ht.node' (.inr h))).1;have A:t.n.a<(k:Int):=p t.n (JQ (aJ l)) h;have:=aS t;exact Lu hI hB hcx hcl ht hr h b c Oo λi e n b=>c _ k _ _ hcx hcl (y _ (JQ (cj l e).1)) (a i e).1 (a i e).2 b
 ·rw[if_neg Oo,if_neg Oo,if_neg Oo,if_neg Oo,if_neg Oo,if_neg Oo,if_neg Oo,if_neg Oo,if_neg Oo,if_neg Oo]
  obtain⟨s,u,v,_⟩:=dM ht.ok h;have C:=fK ht.ok h;have q:(cx++bi t).length=cx.length+t.n.b.toNat:=by rw[JK,oU]
  exact Lw hI hB hcx hcl ht hr h b (λi e n b=>c _ k _ _ hcx hcl (ib ht h e).2.2.1 (a _ Oo).1 (a _ Oo).2 b) λo i e n b=>c _ k _ _ (nO hcx Oo ht h) Oo ((ib ht h e).2.2.2.mono Oo) (a _ Oo).1 (a _ Oo).2 b
theorem jgG:∀g,pf B (dD B g) g
 |0=>λcx k t n _ _ _ _ h _=>by
  have:=aS t;omega
 |g+1=>Lx hI hB (kH hB g) (jgG g)
end
def yO{β:Type}(r:Except Int β)(ok:β ->Prop)(er:Int ->Prop):Prop:=match r with
 | .ok q=>ok q
 | .error e=>er e
@[irreducible] def GJ:Nat:=330000
theorem oX':64*5000+4096<=GJ:=by unfold GJ;decide
def jr(B:aq)(cx:Ctx)(t:Tr)(fuel:Int):Except Int (Tr×Nat):=dD B GJ cx t (bE fuel)
def Ly(B:aq)(cx:Ctx)(t ty:Tr)(fuel:Int):Except Int (Unit×Nat):=eQ B (dD B GJ) cx t ty (bE fuel)
def pg(B:aq)(cx:Ctx)(t:Tr)(fuel:Int):Except Int ((Int×List Atom)×Nat):=dd B (dD B GJ) cx t (bE fuel)
theorem rh{B:aq}(hB:GoodB B){N:Int}{t:Tr}(h:Ft (QB B) N t):Mt 64 t:=λm b a=>by
 have:=h.al m b;have c:=jK this (.inr a);have:=jS hB c;omega
theorem ri(f:Int):bE f<=100000:=by unfold bE;omega
section
variable{B:aq}{cx:Ctx}{X:List Nat}{w:World}
def EF(X:List Nat)(w:World)(r:Except Int (Tr×Nat))(e:Ending)(w':World):Prop:=
 yO r (λq=>∃u,e= .returned (.tuple #[u,iV (q.2:Int),iV 0])/\TmV (Im X w') q.1 u) (λer=>e= .returned (.tuple #[.slice none 0 0,iV 0,iV er]))/\Kp [] w w'
end
def dx(l:List Tr):Nat:=(l.map λy=>(row y).length).sum
theorem rows_len:∀l:List Tr,(rows l).length=dx l
 |[]=>rfl
 |x::r=>by
  simp only[rows,JK,rows_len r];simp[dx]
theorem ny':∀l:List Tr,(rows l).length=l.length+dx (l.flatMap (·.ks))
 |[]=>rfl
 | .mk n ks::r=>by
  have:=ny' r;have e:=rows_len ks;simp only[rows,row,JK,JV,List.flatMap_cons,dx,List.map_append,List.sum_append,Tr.ks]at *
  omega
theorem EG{x:Tr}(d:Ok .tm x):(row x).length=1+(atmsT x).length+(funsT x).length+dx (kidsT x):=by
 by_cases a:x.n.op=12
 ·obtain⟨n,b⟩:=x
  have a:n.op=12:=a;have c:n.op≠2:=Oo
  have:=ny' b;have e:kidsT (.mk n b)=b.flatMap (·.ks):=by simp only[kidsT];rw[if_neg c,if_pos a]
  have f:atmsT (.mk n b)=[]:=if_neg c;have i:funsT (.mk n b)=b.map (·.n):=if_pos a;rw[e,f,i];simp only[row,JV,List.length_map,JU];omega
 ·have hr:=congrArg List.length (iA d)
  rw[xl a,JV,JK,rows_len]at hr;have:funsT x=[]:=by unfold funsT;rw[if_neg a]
  rw[this,hr];simp;omega
theorem Lz{l:List Tr}{i:Nat}{y:Tr}(h:l[i]?=some y):dx (l.take (i+1))=dx (l.take i)+(row y).length:=by
 unfold dx;rw[List.take_add_one,h];simp
theorem LA(l:List Tr)(i:Nat):dx (l.take i)<=dx l:=by
 have h:dx l=dx (l.take i)+dx (l.drop i):=by
  unfold dx;rw[<- List.sum_append,<- List.map_append,List.take_append_drop]
 omega
theorem yP(N:Nat)(hN:N<=1000000):∀x:Tr,Ok .tm x ->(row x).length<=N ->VC prog 160 [bB x] (pI (row x).length):=by
 induction N with
 |zero=>intro x a h;have:=aS x;omega
 |succ N e=>
  intro x a h;have f:=EG a;have o:=ak ndP (atmsT x);have p:=ak ndP (funsT x);have q:=ak trP (kidsT x);have j:=gA a;refine vf 29 [.tmp 2] τok func160 ?_;refine vi ?_;refine vi ?_;refine az τok (σ:=Nat) [(1,_)] [(1,_)] (λi=>[(3,vI ((1+(atmsT x).length+(funsT x).length+dx ((kidsT x).take i):Nat):Int)),(4,vI i)]) (λ_=>[]) (λi=>i<=(kidsT x).length) (λi=>(kidsT x).length-i) 0 (KV _) ?_ (x1:=⟨congrArg (λz=>some (vI z)) (by simp[dx]),rfl,trivial⟩);rintro i r;refine aj τok<|ae (λg=>?_) (λg=>?_)
  ·obtain⟨y,b,_⟩:=ay (l:=kidsT x) (k:=i)
   have m:=hH a b;have c:=Lz b;have d:=LA (kidsT x) (i+1);refine vt i b ?_;refine af (e Oo y (Dx a b) Oo) ?_;refine vi ?_ Oo Oo;refine vi ?_;exact au (i+1) (by show i+1<=_;omega) (x:=⟨congrArg (λz=>some (vI z)) (by rw[c];omega),rfl,trivial⟩)
  ·rw[JG Oo]
   rw[<- f];exact eA9
theorem LB(n:Int):VC prog 49 [pI n] (pI (min (max n 0) 100000)):=by
 refine vf 6 [.tmp 2] τok func49 ?_;exact eA9
theorem LC{x:Tr}{ys:List Tr}{i:Nat}{y:Tr}(a:ys[i]?=some y):al' x (ys.take (i+1))= .mk appN [al' x (ys.take i),y]:=by
 rw[List.take_add_one,a,Option.toList,hQ']
theorem LD(a b:Tr):dT (.mk appN [a,b])=[pI 6,pI 0,pI 0,.sl [dT a,dT b],.sl [],.sl []]:=by
 have c:kidsT (.mk appN [a,b])=[a,b]:=by simp[kidsT,appN]
 have d:atmsT (.mk appN [a,b])=[]:=by simp[atmsT,appN,Tr.n]
 have e:funsT (.mk appN [a,b])=[]:=by simp[funsT,appN,Tr.n]
 show eJ _ _ _ _=_;rw[c,d,e,List.map_cons,List.map_cons,List.map_nil,jO,jO]
 rfl
theorem lT{x:Tr}{ys:List Tr}(hl:ys.length<=1000000):VC prog 194 [bB x,mD ys] (bB (al' x ys)):=by
 have b:=ak trP ys;refine vf 21 [.cell 4 111] τok func194 ?_;refine az τok (σ:=Nat) [(1,_),(2,_),(4,_)] [(4,_)] (λi=>[(5,vI i)]) (λi=>[(2,.st 0 111 ((dT (al' x (ys.take i))).map .p))]) (λi=>i<=ys.length) (λi=>ys.length-i) 0 (KV _) ?_;rintro i c;refine aC τok<|ae (λg=>?_) (λg=>?_)
 ·obtain⟨y,a,_⟩:=ay (l:=ys) (k:=i)
  refine VCode.seq (VCode.blk<|aj τok<|vt i a ?_);refine vk ?_;show VCode _ _ _ _ _;refine nE 2 3 18 ?_;refine KB 2 ?_;refine aj τok<|vi ?_;refine au (i+1) (by show i+1<=_;omega) (y':=⟨?_,trivial⟩);rw[LC a];rw[LD]
  rfl
 ·rw[JG Oo]
  exact eA9
def cL(b u:Tr):Tr×Int:=if gc b u 0=true then (b,9)else (eu b u 0,0)
def jt(x:Tr):Nat ->Tr ->Tr×Int
 |0,b=>(b,0)
 |i+1,b=>if gc b (aH (fixAt x i) i 0) 0=true then (b,9)else jt x i (eu b (aH (fixAt x i) i 0) 0)
def lU(x:Tr):Tr×Int:=jt x x.n.b.toNat (kidD x (2*x.n.a.toNat+1))
def dJ(B:aq)(cx:Ctx)(x:Tr):Tr×Int:=
 let h:=headT x
 let l:=argsT x
 if h.n.op=5 then (al' (cL (kidD h 1) (l.getD 0 (varX 0))).1 (l.drop 1),(cL (kidD h 1) (l.getD 0 (varX 0))).2)
 else if h.n.op=7 then (al' (cL (kidD h 2) (kidD h 1)).1 l,(cL (kidD h 2) (kidD h 1)).2)
 else if h.n.op=1 then (al' (aH ((eZ cx h.n.a).2.getD (varX 0)) (h.n.a+1) 0) l,0)
 else if h.n.op=8 then (al' (tr (aP B h.n.a).body) l,0)
 else if h.n.op=11 then (al' (kidD h (2+(headT (kidD h 1)).n.b.toNat)) ((argsT (kidD h 1)).drop (eH B h.n.a)++l),0)
 else (al' (lU h).1 l,(lU h).2)
def gN(x:Tr)(r:Tr×Bool×Int):Tr×Bool×Int:=if r.2.1=false \/r.2.2≠0 then (x,r.2.1,r.2.2)else (bJ x r.1,true,0)
def ph(B:aq)(cx:Ctx):Nat ->Tr ->Tr×Bool×Int
 |0,x=>(x,false,0)
 |g+1,x=>if cf B cx x=true then ((dJ B cx x).1,true,(dJ B cx x).2)else match cg x with
  |none=>(x,false,0)
  |some p=>gN x (ph B cx g p)
def aM(B:aq)(cx:Ctx)(x:Tr):Tr×Bool×Int:=ph B cx (row x).length x
def cM(B:aq)(cx:Ctx)(room:Int):Nat ->Tr ->Except Int (Tr×Nat)
 |0,x=>if (aM B cx x).2.1=false then .ok (x,0)else .error 10
 |n+1,x=>if (aM B cx x).2.1=false then .ok (x,n+1)else if (aM B cx x).2.2≠0 \/room<len (aM B cx x).1 then .error 9 else cM B cx room n (aM B cx x).1
theorem yQ(x:Tr):∀(i:Nat) (b:Tr),jh x i b=if (jt x i b).2≠0 then .error 9 else .ok (jt x i b).1
 |0,b=>rfl
 |i+1,b=>by
  simp only[jh,jt,bk];split
  ·rfl
  ·exact yQ x i _
theorem yR(B:aq)(cx:Ctx)(x:Tr):gf B cx x=if (dJ B cx x).2≠0 \/4096<(row (dJ B cx x).1).length then .error 9 else .ok (dJ B cx x).1:=by
 have d:∀(b:Tr) (l:List Tr),aK b l=if (0:Int)≠0 \/4096<(row (al' b l)).length then .error 9 else .ok (al' b l):=λb l=>by
  unfold aK;simp
 have k:∀(b u:Tr) (l:List Tr),((bk b u 0).bind λs=>aK s l)=if (cL b u).2≠0 \/4096<(row (al' (cL b u).1 l)).length then .error 9 else .ok (al' (cL b u).1 l):=λb u l=>by
  unfold bk cL;split
  ·simp[Except.bind]
  ·exact d _ l
 unfold gf dJ
 by_cases e:(headT x).n.op=5
 ·rw[if_pos e,if_pos e]
  exact k _ _ _
 rw[if_neg e,if_neg e]
 by_cases f:(headT x).n.op=7
 ·rw[if_pos f,if_pos f]
  exact k _ _ _
 rw[if_neg f,if_neg f]
 by_cases i:(headT x).n.op=1
 ·rw[if_pos i,if_pos i]
  exact d _ _
 rw[if_neg i,if_neg i]
 by_cases j:(headT x).n.op=8
 ·rw[if_pos j,if_pos j]
  exact d _ _
 rw[if_neg j,if_neg j]
 by_cases c:(headT x).n.op=11
 ·rw[if_pos c,if_pos c]
  exact d _ _
 rw[if_neg c,if_neg c];unfold kk lU;rw[yQ];split
 ·rename_i h
  rw[if_pos (.inl h)]
  rfl
 ·rename_i h
  have h:(jt (headT x) (headT x).n.b.toNat (kidD (headT x) (2*(headT x).n.a.toNat+1))).2=0:=Decidable.of_not_not h;rw[h];exact d _ _
section
variable{B:aq}{cx:Ctx}
theorem AE':∀(g a:Nat) (x:Tr),Wf x ->(row x).length<=g ->(row x).length<=a ->ph B cx g x=ph B cx a x:=by
 intro g
 induction g with
 |zero=>intro a x _ h;have:=aS x;omega
 |succ g c=>
  intro a x d h f;cases a with
  |zero=>have:=aS x;omega
  |succ a=>
   simp only[ph];split
   ·rfl
   ·split
    ·rfl
    ·rename_i p e
     obtain⟨b,i⟩:=jL d.ft e;rw[c a p ⟨b.ok,b.len⟩ Oo Oo]
theorem kP{x:Tr}(b:Wf x):aM B cx x=if cf B cx x=true then ((dJ B cx x).1,true,(dJ B cx x).2)else match cg x with
  |none=>(x,false,0)
  |some p=>gN x (aM B cx p):=by
 obtain⟨g,c⟩:∃g,(row x).length=g+1:=⟨(row x).length-1,by have:=aS x;omega⟩
 unfold aM;rw[c];simp only[ph];split
 ·rfl
 ·split
  ·rfl
  ·rename_i p d
   obtain⟨a,e⟩:=jL b.ft d;rw[AE' g (row p).length p ⟨a.ok,a.len⟩ Oo (KJ _)]
theorem EH(x:Tr):∀(i:Nat) (b:Tr),(jt x i b).2=0 \/(jt x i b).2=9
 |0,b=>.inl rfl
 |i+1,b=>by
  simp only[jt];split
  ·exact .inr rfl
  ·exact EH x i _
theorem LF(x:Tr):(dJ B cx x).2=0 \/(dJ B cx x).2=9:=by
 have c:∀b u,(cL b u).2=0 \/(cL b u).2=9:=λb u=>by
  unfold cL;split
  ·exact .inr rfl
  ·exact .inl rfl
 unfold dJ
 dsimp only
 by_cases d:(headT x).n.op=5
 ·rw[if_pos d];exact c _ _
 rw[if_neg d]
 by_cases e:(headT x).n.op=7
 ·rw[if_pos e];exact c _ _
 rw[if_neg e]
 by_cases f:(headT x).n.op=1
 ·rw[if_pos f];exact .inl rfl
 rw[if_neg f]
 by_cases i:(headT x).n.op=8
 ·rw[if_pos i];exact .inl rfl
 rw[if_neg i]
 by_cases a:(headT x).n.op=11
 ·rw[if_pos a];exact .inl rfl
 rw[if_neg a];exact EH _ _ _
theorem rj(N:Nat):∀x:Tr,Wf x ->(row x).length<=N ->((aM B cx x).2.2=0 \/(aM B cx x).2.2=9)/\((aM B cx x).2.1=false ->(aM B cx x).1=x/\(aM B cx x).2.2=0):=by
 induction N with
 |zero=>intro x _ h;have:=aS x;omega
 |succ N c=>
  intro x a h;rw[kP a];split
  ·exact⟨LF x,λh=>by cases h⟩
  ·split
   ·exact⟨.inl rfl,λ_=>⟨rfl,rfl⟩⟩
   ·rename_i p d
    obtain⟨b,j⟩:=jL a.ft d;obtain⟨f,i⟩:=c p ⟨b.ok,b.len⟩ Oo;unfold gN;split
    ·rename_i q
     exact⟨f,λe=>⟨rfl,(i e).2⟩⟩
    ·exact⟨.inl rfl,λe=>by cases e⟩
theorem EI{x p:Tr}(hr:cf B cx x=true)(a:cg x=some p):(headT p).n.op=10:=by
 unfold cg at a;unfold cf at hr;split at a
 ·rename_i g
  rw[if_neg Oo,if_neg Oo,if_neg Oo,if_pos g]at hr;obtain rfl:=JB a;simp only[gX,Bool.and_eq_true,decide_eq_true_eq]at hr;exact hr.1
 ·rename_i b
  split at a
  ·rename_i g
   split at a
   ·obtain rfl:=JB a
    rw[if_neg Oo,if_neg Oo,if_neg Oo,if_neg b,if_pos g]at hr;simp only[Bool.and_eq_true,decide_eq_true_eq]at hr;exact hr.2
   ·cases a
  ·cases a
theorem EJ{p:Tr}(a:Wf p)(h:(headT p).n.op=10):aM B cx p=(p,false,0):=by
 rw[kP a];have b:cf B cx p=false:=by
  unfold cf;rw[if_neg Oo,if_neg Oo,if_neg Oo,if_neg Oo,if_neg Oo]
 have c:cg p=none:=by
  unfold cg;rw[if_neg Oo,if_neg Oo]
 rw[b,c]
 rfl
theorem nD':∀(ys:List Tr) (x:Tr),headT (al' x ys)=headT x/\argsT (al' x ys)=argsT x++ys
 |[],x=>by simp[al']
 |y::r,x=>by
  have a:appN.op=6:=rfl;have b:headT (.mk appN [x,y])=headT x:=kc a;have c:argsT (.mk appN [x,y])=argsT x++[y]:=ke a;obtain⟨d,e⟩:=nD' r (.mk appN [x,y]);rw[al',d,e,b,c];simp
theorem rl(y q:Tr):bJ y q=if (headT y).n.op=11 then al' (.mk (headT y).n ((headT y).ks.set 1 q)) (argsT y)else al' (headT y) ((argsT y).set (bS (headT y)).toNat q):=rfl
theorem tN{Q:Nd ->Prop}{N:Int}{x y:Tr}(p:Ft Q N x)(b:cg x=some y)(z:Tr):cg (bJ x z)=some z/\(∀q,bJ (bJ x z) q=bJ x q)/\bJ x y=x:=by
 have m:=p.spine;have d:=p.head.ok;obtain⟨⟨P,o,_⟩,_⟩:=nW _ (aB p) (KJ _);unfold cg at b;split at b
 ·rename_i g
  obtain⟨H,I,_,_⟩:=gd d g;obtain⟨s,_⟩:=p.head.kidD (k:=1) (by rw[H];omega);rw[H]at s;obtain rfl:=JB b;have a:=aI s;have j:∀q,bJ x q=al' (.mk (headT x).n ((headT x).ks.set 1 q)) (argsT x):=λq=>by unfold bJ;rw[if_pos g]
  have c:∀q,headT (bJ x q)= .mk (headT x).n ((headT x).ks.set 1 q)/\argsT (bJ x q)=argsT x:=λq=>by
   obtain⟨v,A⟩:=nD' (argsT x) (.mk (headT x).n ((headT x).ks.set 1 q));obtain⟨C,D⟩:=gn (x:=.mk (headT x).n ((headT x).ks.set 1 q)) (show (headT x).n.op≠6 from o);rw[j q,v,A,C,D];exact⟨rfl,rfl⟩
  refine⟨?_,λq=>?_,?_⟩
  ·unfold cg
   rw[(c z).1];rw[if_pos (show (Tr.mk (headT x).n ((headT x).ks.set 1 z)).n.op=11 from g)]
   congr 1
   have r:¬ (headT x).n.op=2:=Oo
   have E:¬ (headT x).n.op=12:=Oo
   simp[kidD,kidsT,r,E,a]
  ·rw[j q,rl (bJ x z) q]
   rw[(c z).1,(c z).2,if_pos (show (Tr.mk (headT x).n ((headT x).ks.set 1 z)).n.op=11 from g)];simp[Tr.n,Tr.ks]
  ·rw[j]
   have:(headT x).ks.set 1 (kidD (headT x) 1)=(headT x).ks:=by
    refine List.ext_getElem? λi=>?_;rw[List.getElem?_set]
    by_cases e:1=i
    ·subst e
     rw[if_pos rfl,if_pos a,s]
    ·rw[if_neg e]
   rw[this];have e:(Tr.mk (headT x).n (headT x).ks)=headT x:=by cases headT x;rfl
   rw[e];exact m
 ·rename_i g
  split at b
  ·rename_i r
   split at b
   ·rename_i K
    obtain⟨f,R,L,M,O⟩:=mC d r;obtain⟨u,F,_⟩:=ay (l:=argsT x) (k:=(bS (headT x)).toNat);have e:eI x (bS (headT x))=u:=by simp[eI,F]
    rw[e]at b;obtain rfl:=JB b;have a:=aI F;have j:∀q,bJ x q=al' (headT x) ((argsT x).set (bS (headT x)).toNat q):=λq=>by unfold bJ;rw[if_neg g]
    have c:∀q,headT (bJ x q)=headT x/\argsT (bJ x q)=(argsT x).set (bS (headT x)).toNat q:=λq=>by
     obtain⟨v,A⟩:=hU' ((argsT x).set (bS (headT x)).toNat q) (headT x) d;obtain⟨C,D⟩:=gn o;rw[j q,v,A,C,D];exact⟨rfl,rfl⟩
    refine⟨?_,λq=>?_,?_⟩
    ·unfold cg
     rw[(c z).1,(c z).2,if_neg g,if_pos r,if_pos (by simpa using K)]
     congr 1
     unfold eI;rw[(c z).2];simp[a]
    ·rw[j q,rl (bJ x z) q]
     rw[(c z).1,(c z).2,if_neg g];simp
    ·rw[j]
     have:(argsT x).set (bS (headT x)).toNat u=argsT x:=by
      refine List.ext_getElem? λi=>?_;rw[List.getElem?_set]
      by_cases e:(bS (headT x)).toNat=i
      ·subst e
       rw[if_pos rfl,if_pos a,F]
      ·rw[if_neg e]
     rw[this];exact m
   ·cases b
  ·cases b
theorem tO{room:Int}{n:Nat}{x:Tr}(h:(aM B cx x).2.1=false):cM B cx room n x= .ok (x,n):=by
 cases n with
 |zero=>simp only[cM];rw[if_pos h]
 |succ n=>simp only[cM];rw[if_pos h]
theorem tP{room:Int}{x:Tr}(h:(aM B cx x).2.1=true):cM B cx room 0 x= .error 10:=by
 simp only[cM];rw[if_neg (by rw[h];decide)]
theorem pi{room:Int}{n:Nat}{x:Tr}(h:(aM B cx x).2.1=true)(hb:(aM B cx x).2.2≠0 \/room<len (aM B cx x).1):cM B cx room (n+1) x= .error 9:=by
 simp only[cM];rw[if_neg (by rw[h];decide),if_pos hb]
theorem tQ{room:Int}{n:Nat}{x:Tr}(h:(aM B cx x).2.1=true)(hb:¬ ((aM B cx x).2.2≠0 \/room<len (aM B cx x).1)):cM B cx room (n+1) x=cM B cx room n (aM B cx x).1:=by
 simp only[cM];rw[if_neg (by rw[h];decide),if_neg hb]
theorem EK(hB:GoodB B)(hcx:CxOk B cx)(hN:cx.length<=90000)(M:Nat):∀x:Tr,Ft (QB B) (cx.length:Int) x ->(row x).length<=M ->(aM B cx x).2.1=true ->(aM B cx x).2.2=0 ->(row (aM B cx x).1).length<=4096 ->Ft (QB B) (cx.length:Int) (aM B cx x).1:=by
 induction M with
 |zero=>intro x _ h;have:=aS x;omega
 |succ M i=>
  intro x c h;rw[kP (aB c)]
  by_cases hr:cf B cx x=true
  ·rw[if_pos hr]
   intro _ j d;refine sR hB hcx hN c hr ?_;rw[yR,if_neg];rintro(h|h)
   ·exact h j
   ·simp only at d;omega
  ·rw[if_neg hr]
   cases e:cg x with
   |none=>intro h;cases h
   |some p=>
    obtain⟨k,m⟩:=jL c e;simp only;unfold gN;split
    ·rename_i q
     intro a b;rcases q with q|q
     ·rw[q]at a;cases a
     ·exact absurd b q
    ·rename_i q
     intro _ _ d;have o:=qx (p:=(aM B cx p).1) c e;have d:(row (bJ x (aM B cx p).1)).length<=4096:=d;have q1:(aM B cx p).2.1=true:=by
      cases f:(aM B cx p).2.1 with
      |true=>rfl
      |false=>exact absurd (.inl f) q
     have l:(aM B cx p).2.2=0:=Decidable.of_not_not λf=>q (.inr f);exact(xh (C:=λ_ _ _=>False) (qk B) c (i p k Oo q1 l Oo) e d).1
theorem part_walk(hB:GoodB B)(hcx:CxOk B cx)(hN:cx.length<=90000):∀(n:Nat) (x p:Tr) (room:Int),Ft (QB B) (cx.length:Int) x ->cg x=some p ->len x<=room ->room<=4096 ->(∃e,cM B cx (room-len x+len p) n p= .error e/\cM B cx room n x= .error e) \/
  ∃q k,cM B cx (room-len x+len p) n p= .ok (q,k)/\cM B cx room n x=cM B cx room k (bJ x q)/\k<=n/\(aM B cx q).2.1=false/\Ft (QB B) (cx.length:Int) (bJ x q)/\len (bJ x q)<=room:=by
 intro n
 induction n with
 |zero=>
  intro x p room b c m d;obtain⟨l,D⟩:=jL b c;obtain⟨E,F,i⟩:=tN b c p;cases a:(aM B cx p).2.1 with
  |false=>exact .inr ⟨p,0,tO a,by rw[i],KJ _,a,by rw[i];exact b,by rw[i];exact m⟩
  |true=>
   have hr:¬ cf B cx x=true:=λhr=>by
    rw[EJ (aB l) (EI hr c)]at a;cases a
   refine .inl ⟨10,tP a,tP ?_⟩;rw[kP (aB b),if_neg hr,c];simp only;unfold gN;split
   ·exact a
   ·rfl
 |succ n H=>
  intro x p room b c m d;obtain⟨l,D⟩:=jL b c;obtain⟨E,F,i⟩:=tN b c p;cases a:(aM B cx p).2.1 with
  |false=>exact .inr ⟨p,n+1,tO a,by rw[i],KJ _,a,by rw[i];exact b,by rw[i];exact m⟩
  |true=>
   have hr:¬ cf B cx x=true:=λhr=>by
    rw[EJ (aB l) (EI hr c)]at a;cases a
   have o:aM B cx x=gN x (aM B cx p):=by rw[kP (aB b),if_neg hr,c]
   by_cases j:(aM B cx p).2.2=0
   ·have f:aM B cx x=(bJ x (aM B cx p).1,true,0):=by
     rw[o];unfold gN;rw[if_neg];rintro(q|q)
     ·rw[a]at q;cases q
     ·exact q j
    have O:=qx (p:=(aM B cx p).1) b c
    by_cases v:room-len x+len p<len (aM B cx p).1
    ·refine .inl ⟨9,pi a (.inr v),pi (by rw[f]) (.inr ?_)⟩
     rw[f];unfold len at *
     simp only;omega
    ·obtain⟨I,K,P⟩:=tN b c (aM B cx p).1
     have r:len (bJ x (aM B cx p).1)<=room:=by unfold len at *;omega
     have s:=EK hB hcx hN _ p l (KJ _) a j (by unfold len at *;omega);have u:=(xh (C:=λ_ _ _=>False) (qk B) b s c (by unfold len at *;omega)).1;have L:room-len (bJ x (aM B cx p).1)+len (aM B cx p).1=room-len x+len p:=by unfold len at *;omega
     have:=H (bJ x (aM B cx p).1) (aM B cx p).1 room u I r d;rw[L]at this;rw[tQ a (by rintro(q|q);exact q j;exact v q),tQ (x:=x) (by rw[f]) (by
      rw[f];rintro(q|q)
      ·exact q rfl
      ·simp only at q;omega),f]
     simp only;rcases this with h|⟨q,k,M,y,Q,N,z,A⟩
     ·exact .inl h
     ·rw[K]at y z A
      exact .inr ⟨q,k,M,y,Oo,N,z,A⟩
   ·refine .inl ⟨9,pi a (.inl j),pi ?_ (.inl ?_)⟩
    ·rw[o]
     unfold gN;rw[if_pos (.inr j)];exact a
    ·rw[o]
     unfold gN;rw[if_pos (.inr j)];exact j
theorem LG{W n k a b M:Nat}(hW:4097<=W)(h1:k+1<=n)(h2:a<=4096)(hb:0<b)(d:n*W+b<=M+1):k*W+a<=M:=by
 have c:(k+1)*W<=n*W:=Nat.mul_le_mul_right W h1;rw[Nat.succ_mul]at c
 generalize k*W=K at *
 generalize n*W=L at *
 omega
theorem LH{x:Tr}{room:Int}(h:len x<=room)(hr:room<=4096):(row x).length<=4096:=by unfold len at h;omega
theorem LI{W:Nat}(hW:4097<=W)(hB:GoodB B)(hcx:CxOk B cx)(hN:cx.length<=90000):∀(M n g:Nat) (x:Tr) (room:Int),Ft (QB B) (cx.length:Int) x ->len x<=room ->room<=4096 ->n*W+(row x).length<=M ->M<=g ->bY B cx g x room n=cM B cx room n x:=by
 intro M
 induction M with
 |zero=>intro n g x room _ _ _ h;have:=aS x;omega
 |succ M E=>
  intro n g x room m F c L N;obtain⟨g,rfl⟩:∃O,g=O+1:=⟨g-1,Oo⟩
  have r:∀(k a:Nat),k+1<=n ->a<=4096 ->k*W+a<=M:=λk a s H=>LG hW s H (aS x) L;have f:∀(b:Tr) (j:Nat),j<=n ->Ft (QB B) (cx.length:Int) b ->len b<=room ->aM B cx b=(if cf B cx b=true then ((dJ B cx b).1,true,(dJ B cx b).2)else (b,false,0)) ->gZ B cx (bY B cx g) room (b,j)=cM B cx room j b:=λb j P u Q i=>by
   unfold gZ;simp only
   by_cases hr:cf B cx b=true
   ·rw[if_pos hr]at i
    rw[if_pos hr];cases j with
    |zero=>rw[if_pos rfl,tP (by rw[i])]
    |succ k=>
     rw[if_neg Oo]
     by_cases d:(aM B cx b).2.2≠0 \/room<len (aM B cx b).1
     ·rw[pi (by rw[i]) d]
      rw[i]at d;rw[yR]
      by_cases v:(dJ B cx b).2≠0 \/4096<(row (dJ B cx b).1).length
      ·rw[if_pos v]
      ·rw[if_neg v]
       simp only;rw[if_pos];rcases d with d|d
       ·exact absurd (.inl d) v
       ·exact d
     ·rw[tQ (by rw[i]) d]
      rw[i]at d ⊢;have l:len (dJ B cx b).1<=room:=by
       simp only[not_or]at d;omega
      have I:gf B cx b= .ok (dJ B cx b).1:=by
       rw[yR,if_neg];rintro(q|q)
       ·exact d (.inl q)
       ·unfold len at l;omega
      rw[I];simp only;rw[if_neg Oo];have y:=sR hB hcx hN u hr I;exact E k g _ room y l c (r k _ P (LH l c)) (Nat.le_of_succ_le_succ N)
   ·rw[if_neg hr]at i
    rw[if_neg hr,tO (by rw[i])]
  simp only[bY];unfold gY;cases o:cg x with
  |none=>
   simp only;refine f x n (KJ _) m F ?_;rw[kP (aB m),o]
  |some p=>
   obtain⟨s,H⟩:=jL m o;simp only;rw[E n g p (room-len x+len p) s Oo (by unfold len at *;omega) Oo Oo];rcases part_walk hB hcx hN n x p room m o F c with ⟨e,z,A⟩|⟨q,j,z,A,R,C,D,S⟩
   ·rw[z,A]
   ·rw[z,A]
    simp only;obtain⟨K,V,Y⟩:=tN m o q;obtain⟨T,_⟩:=jL D K;obtain⟨_,U⟩:=rj _ q (aB T) (KJ _);refine f (bJ x q) j R D S ?_;rw[kP (aB D),K];simp only;have:gN (bJ x q) (aM B cx q)=(bJ x q,false,0):=by
     unfold gN;rw[if_pos (.inl C),C,(U C).2]
    rw[this]
theorem tR(hB:GoodB B)(hcx:CxOk B cx)(hN:cx.length<=90000){x:Tr}(a:Ft (QB B) (cx.length:Int) x)(fuel:Int):dC B cx x fuel=cM B cx 4096 (bE fuel) x:=by
 have c:bE fuel<=100000:=by unfold bE;omega
 have d:=a.len;have b:=CS';unfold dC
 generalize GW=G at b ⊢
 exact LI (W:=5000) Oo hB hcx hN (bE fuel*5000+(row x).length) (bE fuel) G x 4096 a (by unfold len;omega) Oo (KJ _) Oo
end
theorem yS{x:Tr}(e:Wf x):VC prog 192 [bB x] (.tup [bB (headT x),mD (argsT x)]):=by
 have o:=mV e 4096 e.len;refine cA 22 [.cell 2 111,.tmp 3] τok func192 ?_;refine aj τok<|cV 4 1000 111 6 rfl rfl<|az τok (σ:=Tr×List Tr) [(1,_),(2,_)] [(2,_)] (λq=>[(4,.c (.row 1000))]) (λq=>[(1,.st 0 111 ((dT q.1).map .p)),(1000,.rw 111 6 (q.2.map trP))]) (λq=>Wf q.1/\headT q.1=headT x/\argsT q.1++q.2=argsT x) (λq=>(row q.1).length) (x,[]) ⟨e,rfl,Od⟩ ?_;rintro⟨z,r⟩ ⟨k,d,b⟩;simp only at k d b;have s:=congrArg List.length b;rw[JK]at s;refine aj τok<|ae (λg=>?_) (λg=>?_)
 ·obtain⟨f,a,m,u,y,i,j,v⟩:=lM k g
  refine vt 1 (by rw[m];rfl) ?_;refine va ?_ (qX _);refine vt 0 (by rw[m];rfl) ?_;exact au (f,a::r) ⟨u,by rw[<- i];exact d,by rw[<- b,j];simp⟩ (sw 1000 15) (y':=⟨rfl,congrArg (λl=>some (SE.rw _ _ l)) (by rw[List.map_cons,jO a];rfl),trivial⟩)
 ·obtain⟨i,j⟩:=gn g
  rw[i]at d;rw[j,List.nil_append]at b;subst d b;exact eA9
theorem EL{l:List Tr}{i:Nat}{y z:Tr}(a:l[i]?=some y)(hl:l.length<=1000000):VC prog 195 [mD l,pI i,bB z] (mD (l.set i z)):=by
 have e:=ak trP l;refine vf 16 [.tmp 6] τok func195 ?_;refine va (p:=trP) ?_ (qX _);refine vt i a ?_;exact yz a<|⟨_,_,rfl,rfl,by unfold mD;rw[List.map_set];exact congrArg (λq=>PV.sl ((l.map trP).set i q)) (jO z).symm⟩
def EM(r:Tr×Int):PV:=.tup [bB r.1,pI r.2]
theorem yT{x u:Tr}(a:Wf x)(d:Wf u)(m:dL u):VC prog 193 [bB x,bB u] (EM (cL x u)):=by
 have L:=a.len;have A:=d.len;have C:=aS u;have o:Dp 0 x:=⟨Oo,Oo⟩
 have ht:=DK 4096 Oo x 0 a o a.len;have M:=yg (varsT x 0 0);have D:=gJ' x 0 0;have E:=nU (v:=0) (varsT x 0 0);have i:=fh' x .tm 0 0 a.ok.1 Oo Oo Oo;have F:=yf (v:=0) (l:=varsT x 0 0) (c:=20000) Oo λq j=>by have:=i q j;omega
 have H:=qK (dI 0 (varsT x 0 0)) Oo 4096 Oo u 0 d ⟨Oo,Oo⟩ d.len;have I:=qJ (b:=dI 0 (varsT x 0 0)) (l:=varsT u 0 0) (c:=1000000) Oo λq j _=>by have:=m q j;omega
 have k:=qN u d 4096 Oo x 0 a o a.len;rw[DO a d.ok m Oo]at k;have K:=DP x 0;have p:0<=(cK (varsT x 0 0):Int)*(((row u).length:Int)-1)/\(cK (varsT x 0 0):Int)*(((row u).length:Int)-1)<=4096*4096:=⟨Int.mul_nonneg Oo Oo,Int.mul_le_mul Oo Oo Oo Oo⟩
 have f:gc x u 0=true↔4096<((row x).length:Int)+(cK (varsT x 0 0):Int)*(((row u).length:Int)-1):=by
  unfold gc;rw[<- K];exact decide_eq_true_iff
 have r:=yP 4096 Oo x a.ok a.len;have s:=yP 4096 Oo u d.ok d.len;have y:4096<((row x).length:Int)+(cK (varsT x 0 0):Int)*(((row u).length:Int)-1) ->cL x u=(x,9):=λh=>by unfold cL;rw[if_pos (f.2 h)]
 have z:¬ 4096<((row x).length:Int)+(cK (varsT x 0 0):Int)*(((row u).length:Int)-1) ->cL x u=(eu x u 0,0):=λh=>by unfold cL;rw[if_neg λq=>h (f.1 q)]
 refine vf 35 [.cell 4 111,.tmp 5] τok func193 ?_;refine af ht ?_;refine ae (λg=>?_) (λg=>?_)
 ·refine af H ?_
  refine vn ?_;refine af r ?_;refine af s ?_;refine vi ?_;refine vi ?_;refine vi ?_;refine ae (λe=>?_) (λe=>?_)
  ·refine vk ?_
   exact⟨_,_,rfl,rfl,by rw[y e];rfl⟩
  ·refine vk ?_
   exact af k<|⟨_,_,rfl,rfl,by rw[z e];rfl⟩
 ·refine af r ?_
  refine af s ?_;refine vi ?_;refine vi ?_;refine vi ?_;refine ae (λe=>?_) (λe=>?_)
  ·refine vk ?_
   exact⟨_,_,rfl,rfl,by rw[y e];rfl⟩
  ·refine vk ?_
   exact af k<|⟨_,_,rfl,rfl,by rw[z e];rfl⟩
theorem LJ{x:Tr}(a:x.n.op=12)(i:Int):dT (fixAt x i)=eJ ⟨12,i,x.n.b⟩ ((kidsT x).map trP) [] ((funsT x).map ndP):=by
 have b:kidsT (fixAt x i)=kidsT x:=by cases x;rfl
 have c:funsT (fixAt x i)=funsT x:=by cases x;rfl
 have d:atmsT (fixAt x i)=[]:=by
  unfold atmsT;rw[if_neg];show ¬ x.n.op=2;omega
 unfold dT;rw[b,c,d];have e:(fixAt x i).n=⟨12,i,x.n.b⟩:=by
  show (⟨x.n.op,i,x.n.b⟩:Nd)=_;rw[a]
 rw[e]
 rfl
theorem LK{Q:Nd ->Prop}(o:Qk Q){x:Tr}{N:Int}(r:Ft Q N x)(a:x.n.op=12)(Y:0<=N)(hN:N<=90000):VC prog 196 [bB x] (EM (lU x)):=by
 have s:=aB r;have Z:=fK s.ok a;have M:=dM s.ok a;have f:2*x.n.a.toNat+1<(kidsT x).length:=Oo
 obtain⟨y,wk,lk⟩:=cj s f;have I:=(r.kidD f).2;have A:kb x.n (2*x.n.a.toNat+1)=x.n.b:=by
  unfold kb;rw[if_pos a,if_pos Oo]
 rw[A]at I;refine vf 55 [.cell 2 111,.tmp 3] τok func196 ?_;refine vi ?_;refine vi ?_;refine vt (2*x.n.a.toNat+1) y ?_ Oo;refine vi ?_;refine az τok (σ:=Nat×Int×Tr) [(1,_),(2,_),(4,_)] [(1,_),(2,_)] (λq=>[(5,vI q.2.1)]) (λq=>[(4,.st 0 111 ((dT q.2.2).map .p))]) (λq=>q.1<=x.n.b.toNat/\Ft Q (N+q.1) q.2.2/\jt x q.1 q.2.2=lU x/\q.2.1=(q.1:Int)-1) (λq=>q.1) (x.n.b.toNat,x.n.b-1,kidD x (2*x.n.a.toNat+1)) ⟨KJ _,by rw[show N+((x.n.b.toNat:Nat):Int)=N+x.n.b by omega];exact I,rfl,OS⟩ ?_;rintro⟨j,v,z⟩ ⟨O,C,d,P⟩;simp only at O C d P;refine aj τok<|ae (λg=>?_) (λg=>?_)
 ·simp only at g
  obtain⟨i,rfl⟩:∃i,j=i+1:=⟨j-1,Oo⟩
  obtain rfl:v=(i:Int):=Oo
  have e:=r.fixAt o a (i:=(i:Int)) Oo Oo;have R:=e.len;have S:=qK (i:Int) Oo 4096 Oo (fixAt x i) 0 (aB e) ⟨Oo,Oo⟩ e.len;have K:=e.small Oo;have T:=qJ (b:=(i:Int)) (l:=varsT (fixAt x i) 0 0) (c:=1000000) Oo λq U _=>by have:=K q U;omega
  have hr:=qM (i:Int) Oo 4096 Oo (fixAt x i) 0 (aB e) ⟨Oo,Oo⟩ e.len;have V:=tw (x:=fixAt x i) (fr:=0) e.ok K (b:=(i:Int)) Oo;rw[<- V]at hr;have D:=e.lift o (b:=(i:Int)) Oo Oo Oo;have m:=yT (aB C) (aB D) (D.small Oo);have L:=LJ a (i:Int);have E:VC prog 104 [.agg (eJ ⟨12,i,x.n.b⟩ ((kidsT x).map trP) [] ((funsT x).map ndP)),pI (i:Int),pI 0] (pI (fT (i:Int) (varsT (fixAt x i) 0 0))):=by rw[<- L];exact S
  have F:VC prog 105 [.agg (eJ ⟨12,i,x.n.b⟩ ((kidsT x).map trP) [] ((funsT x).map ndP)),pI (i:Int),pI 0] (bB (aH (fixAt x i) i 0)):=by rw[<- L];exact hr
  simp only[jt]at d;refine af E ?_;refine vn ?_;refine af F ?_
  by_cases k:gc z (aH (fixAt x i) i 0) 0=true
  ·have H:cL z (aH (fixAt x i) i 0)=(z,9):=by unfold cL;rw[if_pos k]
   rw[if_pos k]at d;rw[H]at m;refine af m ?_;refine vk ?_;exact vy<|⟨_,_,rfl,rfl,by rw[<- d];rfl⟩
  ·have H:cL z (aH (fixAt x i) i 0)=(eu z (aH (fixAt x i) i 0) 0,0):=by unfold cL;rw[if_neg k]
   rw[if_neg k]at d;rw[H]at m;refine af m ?_;refine vk ?_;refine vn ?_;refine vi ?_;have W:=iy o (N:=N+i) (v:=0) (b:=z) (u:=aH (fixAt x i) i 0) (C.mono Oo) D Oo Oo Oo Oo (by unfold bk;rw[if_neg k]);exact au (i,(i:Int)-1,eu z (aH (fixAt x i) i 0) 0) ⟨OS,W.mono OS,d,rfl⟩
 ·simp only at g
  obtain rfl:j=0:=Oo
  simp only[jt]at d;exact⟨_,_,rfl,rfl,by rw[<- d];rfl⟩
theorem jZ':∀(a b:List Tr) (x:Tr),al' x (a++b)=al' (al' x a) b
 |[],b,x=>rfl
 |y::r,b,x=>jZ' r b (.mk appN [x,y])
def yU(r:Tr×Bool×Int):PV:=.tup [bB r.1,.bool r.2.1,pI r.2.2]
theorem EN{l:List Tr}{p q:Nat}(a:q=l.length):PV.sl (((l.map trP).take q).drop p)=mD (l.drop p):=by
 subst a;unfold mD;rw[JG Od,List.map_drop]
theorem tS{B:aq}{n:Nd}{s:Tr}(h:¬ (headT s).n.op=10 \/¬ (headT s).n.a=n.a \/¬ (headT s).n.b<n.b \/¬ (argsT s).length=eH B n.a+(iw B n.a (headT s).n.b).args.length):gX B n s=false:=by
 cases c:gX B n s with
 |false=>rfl
 |true=>
  simp only[gX,Bool.and_eq_true,decide_eq_true_eq]at c;obtain⟨d,e,f,i⟩:=c;rcases h with h|h|h|h
  ·exact absurd d h
  ·exact absurd e h
  ·exact absurd f h
  ·exact absurd i h
theorem LL{B:aq}{n:Nd}{s:Tr}(h1:(headT s).n.op=10)(h2:(headT s).n.a=n.a)(h3:(headT s).n.b<n.b)(h4:(argsT s).length=eH B n.a+(iw B n.a (headT s).n.b).args.length):gX B n s=true:=by
 simp only[gX,Bool.and_eq_true,decide_eq_true_eq];exact⟨h1,h2,h3,h4⟩
def EO(B:aq)(cx:Ctx)(R:Nat):Prop:=∀y:Tr,Ft (QB B) (cx.length:Int) y ->(row y).length<R ->VC prog 159 [aW B,aG (cx.map aA),bB y] (yU (aM B cx y))
section
variable{B:aq}{cx:Ctx}(hB:GoodB B)(hcx:CxOk B cx)(hN:cx.length<=300)
include hB hcx hN
theorem LM{x:Tr}(hx:Ft (QB B) (cx.length:Int) x)(ih:EO B cx (row x).length):VC prog 159 [aW B,aG (cx.map aA),bB x] (yU (aM B cx x)):=by
 have hw:=aB hx;have u:=kP (B:=B) (cx:=cx) hw;obtain⟨⟨T,d9,w3⟩,w4⟩:=nW _ hw (KJ _);have hh:=hx.head;have ha:=hx.args;have d':=mV hw 4096 hw.len;have eA:=ak trP (argsT x);have eC:=ak bdP (cx.map aA);have e0:=ak aA cx;have c2:=yS hw;have I:cf B cx x=false ->cg x=none ->yU (aM B cx x)= .tup [bB x,.bool false,pI 0]:=λh1 h2=>by
  rw[u,h1,h2]
  rfl
 have K:cf B cx x=true ->aM B cx x=((dJ B cx x).1,true,(dJ B cx x).2):=λh=>by rw[u,if_pos h]
 refine vf 298 [.cell 6 111,.tmp 7,.tmp 8] τok func159 ?_;refine af c2 ?_;have d:cf B cx x=(if (headT x).n.op=5 then decide (0<(argsT x).length)else if (headT x).n.op=7 \/(headT x).n.op=8 then true else if (headT x).n.op=1 then (eZ cx (headT x).n.a).2.isSome else if (headT x).n.op=11 then gX B (headT x).n (kidD (headT x) 1)else if (headT x).n.op=12 then decide (bS (headT x)<(argsT x).length) && decide ((headT ((argsT x).getD (bS (headT x)).toNat (varX 0))).n.op=10)else false):=rfl;have m:cg x=(if (headT x).n.op=11 then some (kidD (headT x) 1)else if (headT x).n.op=12 then (if bS (headT x)<(argsT x).length then some (eI x (bS (headT x)))else none)else none):=rfl;have j:dJ B cx x=(if (headT x).n.op=5 then (al' (cL (kidD (headT x) 1) ((argsT x).getD 0 (varX 0))).1 ((argsT x).drop 1),(cL (kidD (headT x) 1) ((argsT x).getD 0 (varX 0))).2)
 else if (headT x).n.op=7 then (al' (cL (kidD (headT x) 2) (kidD (headT x) 1)).1 (argsT x),(cL (kidD (headT x) 2) (kidD (headT x) 1)).2)
 else if (headT x).n.op=1 then (al' (aH ((eZ cx (headT x).n.a).2.getD (varX 0)) ((headT x).n.a+1) 0) (argsT x),0)
 else if (headT x).n.op=8 then (al' (tr (aP B (headT x).n.a).body) (argsT x),0)
 else if (headT x).n.op=11 then (al' (kidD (headT x) (2+(headT (kidD (headT x) 1)).n.b.toNat)) ((argsT (kidD (headT x) 1)).drop (eH B (headT x).n.a)++argsT x),0)
 else (al' (lU (headT x)).1 (argsT x),(lU (headT x)).2)):=rfl
 generalize a8:headT x=h at *
 generalize Z:argsT x=l at *
 refine ae (λg5=>?_) (λg5=>?_)
 ·rw[if_pos g5]at d j
  have m:cg x=none:=by rw[m,if_neg Oo,if_neg Oo]
  refine ae (λg0=>?_) (λg0=>?_)
  ·exact⟨_,_,rfl,rfl,(I (by rw[d,decide_eq_false Oo]) m).symm⟩
  obtain⟨e,v0,v1,l0,l1⟩:=gM T (.inr g5);obtain⟨y,R,hd⟩:=ay (l:=l) (k:=0);have ey:l.getD 0 (varX 0)=y:=by rw[List.getD_eq_getElem?_getD,R];rfl
  rw[ey]at j;have L:=JQ R;have hp:=yT v1 (w4 y L).1 ((ha y L).small Oo);have S:=lT (x:=(cL (kidD h 1) y).1) (ys:=l.drop 1) OK;have c3:VC prog 194 [bB (cL (kidD h 1) y).1,.sl (((l.map trP).take l.length).drop 1)] (bB (al' (cL (kidD h 1) y).1 (l.drop 1))):=by
   rw[EN rfl];exact S
  have C:=K (by rw[d,decide_eq_true Oo]);rw[j]at C;rw[C];refine vt 1 (by rw[e];rfl) ?_;refine vt 0 R ?_;refine af hp ?_;refine vk ?_;refine bC 1 l.length ?_ (λz hz=>by
   obtain⟨t,_,rfl⟩:=List.mem_map.1 hz;exact(qX [t] t Od).1)
  refine af c3 ?_;exact kA9
 rw[if_neg g5]at d j;refine ae (λg7=>?_) (λg7=>?_)
 ·rw[if_pos g7]at j
  rw[if_pos (.inl g7)]at d;obtain⟨e,_⟩:=oQ T.ok g7;have e1:(kidsT h).length=3:=by rw[e];rfl
  obtain⟨_,v1,_⟩:=cj T (k:=1);obtain⟨_,v2,_⟩:=cj T (k:=2);have f1:=(hh.kidD (k:=1) Oo).2;have k1:kb h.n 1=0:=by simp[kb,aY,g7]
  rw[k1]at f1;have hp:=yT v2 v1 (f1.small Oo);have S:=lT (x:=(cL (kidD h 2) (kidD h 1)).1) (ys:=l) Oo;have C:=K d;rw[j]at C;rw[C];refine vt 2 (by rw[e];rfl) ?_;refine vt 1 (by rw[e];rfl) ?_;refine af hp ?_;refine vk ?_;refine af S ?_;exact eA9
 rw[if_neg g7]at j;refine ae (λg1=>?_) (λg1=>?_)
 ·rw[if_pos g1]at j
  rw[if_neg Oo,if_pos g1]at d;have m:cg x=none:=by rw[m,if_neg Oo,if_neg Oo]
  obtain⟨n0,n1⟩:=s5 hh g1;obtain⟨va,a0⟩:∃v,h.n.a=v:=⟨_,rfl⟩
  rw[a0]at d j n0 n1;obtain⟨⟨ty,vv⟩,a9⟩:∃q,eZ cx va=q:=⟨_,rfl⟩
  have a4:=mA n0 n1;rw[a9]at a4;rw[a9]at d j;have c4:(cx.map aA)[cx.length-1-va.toNat]?=some (row ty,nS' vv):=by rw[JX,a4];rfl
  refine vi ?_;refine vi ?_;refine vm (cx.length-1-va.toNat) c4 ?_ Oo;cases vv with
  |none=>
   refine vy (p:=((([]:List Nd).map ndP).length:Int)=0) ?_ Od;exact⟨_,_,rfl,rfl,(I d m).symm⟩
  |some v=>
   have W:=(hcx _ _ a4).2 v rfl;have a':=W.small Oo;have e2:=W.len;have C:=K d;have j:dJ B cx x=(al' (aH v (va+1) 0) l,0):=j;rw[j]at C;rw[C];have e3:=aS v;have eR:=ak ndP (row v);have b0:=qK (va+1) Oo 4096 Oo v 0 (aB W) ⟨Oo,Oo⟩ W.len;have c5:=qJ (b:=va+1) (l:=varsT v 0 0) (c:=1000000) Oo λq hq _=>by have:=a' q hq;omega
   have hr:=qM (va+1) Oo 4096 Oo v 0 (aB W) ⟨Oo,Oo⟩ W.len;have el:=tw (x:=v) (fr:=0) W.ok a' (b:=va+1) Oo;rw[<- el]at hr;have S:=lT (x:=aH v (va+1) 0) (ys:=l) Oo;refine vn (p:=(((row v).map ndP).length:Int)=0) ?_;refine af (iH (aB W)) ?_;rw[<- a0]at b0 hr c5;refine vi ?_;refine af b0 ?_;refine vn ?_;refine vi ?_;rw[<- a0]at S ⊢;refine af hr ?_;refine af S ?_;exact eA9
 rw[if_neg g1]at j;refine ae (λg8=>?_) (λg8=>?_)
 ·rw[if_pos g8]at j
  rw[if_pos (.inr g8)]at d;obtain⟨i,en,ty,bo,ea,c6,c7,hD⟩:=hB.dfn hh.node' g8;have b1:=hD.fb;have c8:tr (aP B h.n.a).body=bo:=by rw[c7,hD.body];exact gW b1.ok
  rw[c8]at j;have b2:=iH (aB b1);rw[<- hD.body]at b2;have S:=lT (x:=bo) (ys:=l) Oo;have C:=K d;rw[j]at C;rw[C];refine vm i c6 ?_ ea;refine af b2 ?_;refine af S ?_;exact eA9
 rw[if_neg g8]at j;rw[if_neg Oo,if_neg g1]at d;refine ae (λD=>?_) (λD=>?_)
 ·rw[if_pos D]at j d m
  have hk:=gd T.ok D;have kl:((kidsT h).length:Int)=2+h.n.b:=by rw[hk.1];exact hk.2.1
  obtain⟨F,v1,l1⟩:=cj T (k:=1);have f1:=(hh.kidD (k:=1) Oo).2;have k1:kb h.n 1=0:=by simp[kb,aY,D]
  rw[k1,Int.add_zero]at f1;obtain⟨s,hs⟩:∃s,kidD h 1=s:=⟨_,rfl⟩
  rw[hs]at F v1 l1 f1 d j m;have M:=ih s f1 Oo;obtain⟨⟨e4,e5,e6⟩,e7⟩:=nW _ v1 (KJ _);have e8:=ak trP (argsT s);have b3:=f1.head;have b4:=yS v1;have hq:=hh.node';have b5:bI B B.ents.length h.n.a=true:=by
   simp[QB,bV,aT,D]at hq;exact hq
  obtain⟨ei,en,s',ps,qi,ea,_,b6,a5,hF⟩:=hB.fam b5 (KJ _);have eP:=ak (λt=>[ah t]) en.params;have l3:=congrArg List.length hF.params;rw[List.length_map]at l3;have e9:=hF.lp;have b7:eH B h.n.a=en.params.length:=by unfold eH;rw[a5]
  have A:=λz=>EL (l:=kidsT h) (i:=1) (z:=z) F Oo;have c9:∀z,dT (.mk h.n (h.ks.set 1 z))=eJ h.n (((kidsT h).set 1 z).map trP) [] []:=λz=>by
   have a1:kidsT (.mk h.n (h.ks.set 1 z))=(kidsT h).set 1 z:=by
    rw[hk.1];have h2:¬ h.n.op=2:=Oo
    have c':¬ h.n.op=12:=Oo
    simp[kidsT,h2,c']
   have a2:atmsT (.mk h.n (h.ks.set 1 z))=[]:=if_neg (show ¬ h.n.op=2 by omega);have a3:funsT (.mk h.n (h.ks.set 1 z))=[]:=if_neg (show ¬ h.n.op=12 by omega);show eJ _ _ _ _=_;rw[a1,a2,a3]
   rfl
  have Q:=λz=>lT (x:=.mk h.n (h.ks.set 1 z)) (ys:=l) Oo;have E:∀z,bJ x z=al' (.mk h.n (h.ks.set 1 z)) l:=λz=>by rw[rl,a8,Z,if_pos D]
  have U:cf B cx x=false ->aM B cx x=gN x (aM B cx s):=λhr=>by rw[u,hr,m];rfl
  generalize hr:aM B cx s=r at *
  obtain⟨z,mv,er⟩:=r;have A:=A z;have E:=E z;have N:VC prog 194 [.agg (eJ h.n (((kidsT h).set 1 z).map trP) [] []),mD l] (bB (al' (.mk h.n (h.ks.set 1 z)) l)):=by
   rw[<- c9];exact Q z
  have o:∀m',gN x (z,m',er)=if m'=false \/er≠0 then (x,m',er)else (bJ x z,true,0):=λ_=>rfl
  refine vt 1 F ?_;refine af b4 ?_;refine vm ei b6 ?_ ea;refine ae (λq1=>?_) (λq1=>?_)
  ·refine ae (λP=>?_) (λP=>?_)
   ·refine ae (λq3=>?_) (λq3=>?_)
    ·have a6:=b3.node'
     have e':(headT s).n.b<en.ctors.length:=by
      have q4:(headT s).n.a=h.n.a:=P;simp[QB,bV,aT,q1]at a6;rw[q4,a5]at a6;exact a6.2
     have f0:=(db b3.ok.pl)
     obtain⟨V,a7⟩:∃c:Nat,(headT s).n.b=(c:Int):=⟨(headT s).n.b.toNat,Oo⟩
     obtain⟨c,hc,_⟩:=ay (l:=en.ctors) (k:=V);obtain⟨ga,go,hC⟩:=hF.ct V c hc;have f2:=hC.la;have l4:=congrArg List.length hC.args;rw[List.length_map]at l4;have f3:=ak (λt=>[ah t]) c.args;have Y:iw B h.n.a (headT s).n.b=c:=by unfold iw;rw[a5,a7,Int.toNat_natCast,List.getD_eq_getElem?_getD,hc];rfl
     refine vm ei b6 ?_ ea;refine vm V hc ?_ a7;refine vi ?_;refine ae (λq4=>?_) (λq4=>?_)
     ·have d0:(argsT s).length=eH B h.n.a+(iw B h.n.a (headT s).n.b).args.length:=by rw[Y,b7];omega
      have hr:cf B cx x=true:=by rw[d];exact LL q1 P q3 d0
      have C:=K hr;obtain⟨d1,vb,_⟩:=cj T (k:=2+V);rw[j,a7,Int.toNat_natCast,jZ']at C;have d2:=lT (x:=kidD h (2+V)) (ys:=(argsT s).drop (eH B h.n.a)) OK;have b8:VC prog 194 [bB (kidD h (2+V)),.sl ((((argsT s).map trP).take (argsT s).length).drop (eH B h.n.a))] (bB (al' (kidD h (2+V)) ((argsT s).drop (eH B h.n.a)))):=by
       rw[EN rfl];exact d2
      have d3:=lT (x:=al' (kidD h (2+V)) ((argsT s).drop (eH B h.n.a))) (ys:=l) Oo;rw[C];refine vk ?_;refine vi ?_;refine vt (2+V) d1 ?_ Oo;refine bC (eH B h.n.a) (argsT s).length ?_ (λz hz=>by
       obtain⟨t,_,rfl⟩:=List.mem_map.1 hz;exact(qX [t] t Od).1) OS
      refine af b8 ?_;refine af d3 ?_;exact kA9
     ·have hr:cf B cx x=false:=by rw[d];exact tS (.inr (.inr (.inr (by rw[Y,b7];omega))))
      have u:=U hr;refine vk ?_;refine vt 1 F ?_;refine af M ?_;refine vk ?_;cases mv with
      |false=>exact⟨_,_,rfl,rfl,by rw[u,o false];rfl⟩
      |true=>
       refine ae (λk=>?_) (λk=>?_)
       ·exact⟨_,_,rfl,rfl,by rw[u,o true,if_pos (.inr k)];rfl⟩
       ·refine af A ?_
        refine af N ?_;exact vk<|⟨_,_,rfl,rfl,by rw[u,o true,if_neg (λq=>q.elim (λq=>by cases q) k),E];rfl⟩
    ·have hr:cf B cx x=false:=by rw[d];exact tS (.inr (.inr (.inl q3)))
     have u:=U hr;refine vk ?_;refine vt 1 F ?_;refine af M ?_;refine vk ?_;cases mv with
     |false=>exact⟨_,_,rfl,rfl,by rw[u,o false];rfl⟩
     |true=>
      refine ae (λk=>?_) (λk=>?_)
      ·exact⟨_,_,rfl,rfl,by rw[u,o true,if_pos (.inr k)];rfl⟩
      ·refine af A ?_
       refine af N ?_;exact vk<|⟨_,_,rfl,rfl,by rw[u,o true,if_neg (λq=>q.elim (λq=>by cases q) k),E];rfl⟩
   ·have hr:cf B cx x=false:=by rw[d];exact tS (.inr (.inl P))
    have u:=U hr;refine vk ?_;refine vt 1 F ?_;refine af M ?_;refine vk ?_;cases mv with
    |false=>exact⟨_,_,rfl,rfl,by rw[u,o false];rfl⟩
    |true=>
     refine ae (λk=>?_) (λk=>?_)
     ·exact⟨_,_,rfl,rfl,by rw[u,o true,if_pos (.inr k)];rfl⟩
     ·refine af A ?_
      refine af N ?_;exact vk<|⟨_,_,rfl,rfl,by rw[u,o true,if_neg (λq=>q.elim (λq=>by cases q) k),E];rfl⟩
  ·have hr:cf B cx x=false:=by rw[d];exact tS (.inl q1)
   have u:=U hr;refine vk ?_;refine vt 1 F ?_;refine af M ?_;refine vk ?_;cases mv with
   |false=>exact⟨_,_,rfl,rfl,by rw[u,o false];rfl⟩
   |true=>
    refine ae (λk=>?_) (λk=>?_)
    ·exact⟨_,_,rfl,rfl,by rw[u,o true,if_pos (.inr k)];rfl⟩
    ·refine af A ?_
     refine af N ?_;exact vk<|⟨_,_,rfl,rfl,by rw[u,o true,if_neg (λq=>q.elim (λq=>by cases q) k),E];rfl⟩
 rw[if_neg D]at j d m;refine ae (λH=>?_) (λH=>?_)
 ·rw[if_pos H]at d m
  obtain⟨f,hf,b9,d4,d5⟩:=mC T.ok H;have f4:=dM T.ok H;have d6:funsT h=h.ks.map (·.n):=by unfold funsT;rw[if_pos H]
  have d7:(funsT h)[h.n.a.toNat]?=some f.n:=by rw[d6,JX,hf];rfl
  refine vm h.n.a.toNat d7 ?_ Oo;rw[b9]at d m d4 d5;refine ae (λq1=>?_) (λq1=>?_)
  ·exact⟨_,_,rfl,rfl,(I (by rw[d,decide_eq_false Oo];rfl) (by rw[m,if_neg Oo])).symm⟩
  obtain⟨pn,O⟩:∃k:Nat,f.n.a=(k:Int):=⟨f.n.a.toNat,Oo⟩
  obtain⟨y,R,_⟩:=ay (l:=l) (k:=pn);have L:=JQ R;have eD:eI x f.n.a=y:=by unfold eI;rw[Z,List.getD_eq_getElem?_getD,O,Int.toNat_natCast,R];rfl
  have eG:l.getD f.n.a.toNat (varX 0)=y:=by rw[List.getD_eq_getElem?_getD,O,Int.toNat_natCast,R];rfl
  rw[eG,decide_eq_true Oo,Bool.true_and]at d;rw[if_pos Oo,eD]at m;have fy:=ha y L;have wy:=(w4 y L).1;have b':=yS wy;refine vt pn R ?_ O;refine af b' ?_;refine ae (λP=>?_) (λP=>?_)
  ·have P:¬ (headT y).n.op=10:=P
   have u:aM B cx x=gN x (aM B cx y):=by rw[u,d,decide_eq_false P,m];rfl
   have M:=ih y fy (w4 y L).2;have c0:=λz=>EL (l:=l) (i:=pn) (z:=z) R Oo;have Q:=λz=>lT (x:=h) (ys:=l.set pn z) OK;have c1:∀z,bJ x z=al' h (l.set pn z):=λz=>by rw[rl,a8,Z,if_neg D,b9,O,Int.toNat_natCast]
   generalize hr:aM B cx y=r at *
   obtain⟨z,mv,er⟩:=r;have A:=c0 z;have E:=c1 z;have N:=Q z;rw[<- O]at A;have o:∀m',gN x (z,m',er)=if m'=false \/er≠0 then (x,m',er)else (bJ x z,true,0):=λ_=>rfl
   refine vt pn R ?_ O;refine af M ?_;refine vk ?_;cases mv with
   |false=>exact⟨_,_,rfl,rfl,by rw[u,o false];rfl⟩
   |true=>
    refine ae (λk=>?_) (λk=>?_)
    ·exact⟨_,_,rfl,rfl,by rw[u,o true,if_pos (.inr k)];rfl⟩
    ·refine af A ?_
     refine af N ?_;exact vk<|⟨_,_,rfl,rfl,by rw[u,o true,if_neg (λq=>q.elim (λq=>by cases q) k),E];rfl⟩
  ·have P:(headT y).n.op=10:=Decidable.of_not_not P
   have C:=K (by rw[d,decide_eq_true P]);rw[j]at C;rw[C];have d8:=LK (qk B) hh H Oo Oo;have S:=lT (x:=(lU h).1) (ys:=l) Oo;refine af d8 ?_;refine af S ?_;exact eA9
 rw[if_neg H]at d m;exact⟨_,_,rfl,rfl,(I d m).symm⟩
theorem goV:∀R,EO B cx R
 |0=>λy _ h=>Oo
 |R+1=>λy a hl=>LM hB hcx hN a λz b c=>goV R z b Oo
end
theorem LN{n:Nd}{ks:List Tr}(f:aw n=true)(b:n.op=11)(hl:(ks.length:Int)=2+n.b)(a:∀k∈ks,Ok .tm k):Ok .tm (.mk n ks):=by
 have c:n.op≠2:=Oo
 have d:n.op≠12:=Oo
 have i:n.op≠13:=Oo
 refine⟨⟨?_,?_⟩,?_⟩
 ·simp only[cnt,f,c]
  rw[if_pos ⟨trivial,Oo,Oo⟩];simp[bp,b];omega
 ·have:∀(l:List Tr) (j:Nat),(∀k∈l,Ok .tm k) ->okL cnt nx l n .tm j:=by
   intro l
   induction l with
   |nil=>intros;trivial
   |cons y l e=>
    intro j h;exact⟨by rw[show nx Md.tm n j= .tm by simp[nx,c,d]];exact(h y Od).1,e _ λk a=>h k (by simp[a])⟩
  exact this ks 0 a
 ·have:∀(l:List Tr),(∀k∈l,Ok .tm k) ->eN' l=true:=by
   intro l
   induction l with
   |nil=>intros;rfl
   |cons y l e=>
    intro h;simp[eN',(h y Od).2,e λk a=>h k (by simp[a])]
  simp[gE',c,this ks a]
theorem LO{Q:Nd ->Prop}{N:Int}{x y z:Tr}(a:Ft Q N x)(b:cg x=some y)(c:Ok .tm z):Ok .tm (bJ x z):=by
 have d:∀u∈argsT x,Ok .tm u:=λu f=>(a.args u f).ok;rw[rl];unfold cg at b;split at b
 ·rename_i g
  rw[if_pos g];have e:=gd a.head.ok g;refine eF' _ _ (LN a.head.ok.pl g (by rw[List.length_set];exact e.2.1) λk h=>?_) d;rcases List.mem_or_eq_of_mem_set h with h|h
  ·rw[<- e.1]at h
   exact(sY (aB a.head) k h).1.ok
  ·rw[h];exact c
 ·rename_i g
  rw[if_neg g];refine eF' _ _ a.head.ok λk h=>?_;rcases List.mem_or_eq_of_mem_set h with h|h
  ·exact d k h
  ·rw[h];exact c
theorem EP{b u:Tr}(hb:Ok .tm b)(a:Ok .tm u)(c:dL u)(h:(cL b u).2=0):Ok .tm (cL b u).1/\(row (cL b u).1).length<=4096:=by
 unfold cL at h ⊢;split at h
 ·cases h
 ·rename_i g
  rw[if_neg g];exact⟨wN hb a c,sP hb a c (by simpa using g)⟩
theorem EQ(l:List Tr)(i:Nat):(l.drop i).length+dx (l.drop i)<=l.length+dx l:=by
 have h:dx l=dx (l.take i)+dx (l.drop i):=by
  unfold dx;rw[<- List.sum_append,<- List.map_append,List.take_append_drop]
 rw[List.length_drop];omega
section
variable{B:aq}{cx:Ctx}(hB:GoodB B)(hcx:CxOk B cx)(hN:cx.length<=300)
include hB hcx hN
theorem LP{x:Tr}(E:Ft (QB B) (cx.length:Int) x)(hr:cf B cx x=true)(he:(dJ B cx x).2=0):Ok .tm (dJ B cx x).1/\(row (dJ B cx x).1).length<=(row x).length+4096:=by
 have Z:=E.nargs;rw[rows_len]at Z;have z:=E.head;have hw:=aB E;obtain⟨⟨d,a0,w3⟩,w4⟩:=nW _ hw (KJ _);have S:=E.args;have a:∀(p:Tr) (f:List Tr),Ok .tm p ->(row p).length<=4096 ->(∀y∈f,Ok .tm y) ->f.length+dx f<=(row x).length ->Ok .tm (al' p f)/\(row (al' p f)).length<=(row x).length+4096:=λp f j h2 h3 h4=>by
  refine⟨eF' f p j h3,?_⟩;rw[bJ'];simp only[JK,List.length_replicate,rows_len];omega
 have m:∀y∈argsT x,Ok .tm y:=λy F=>(S y F).ok;unfold dJ at he ⊢
 dsimp only at he ⊢
 unfold cf at hr
 dsimp only at hr
 generalize headT x=h at *
 generalize argsT x=l at *
 by_cases K:h.n.op=5
 ·rw[if_pos K]at he ⊢ hr
  obtain⟨_,v0,H,_,_⟩:=gM d (.inr K);obtain⟨y,F,_⟩:=ay (l:=l) (k:=0) (by simpa using hr);have ey:l.getD 0 (varX 0)=y:=by rw[List.getD_eq_getElem?_getD,F];rfl
  rw[ey]at he ⊢;have A:=JQ F;obtain⟨L,M⟩:=EP H.ok (m y A) ((S y A).small Oo) he;have:=EQ l 1;exact a _ _ L M (λu c=>m u (List.mem_of_mem_drop c)) Oo
 rw[if_neg K]at he ⊢ hr
 by_cases I:h.n.op=7
 ·rw[if_pos I]at he ⊢
  obtain⟨e,_⟩:=oQ d.ok I;have a1:(kidsT h).length=3:=by rw[e];rfl
  obtain⟨_,H,_⟩:=cj d (k:=1);obtain⟨_,v2,_⟩:=cj d (k:=2);have s:=(z.kidD (k:=1) Oo).2;have k1:kb h.n 1=0:=by simp[kb,aY,I]
  rw[k1]at s;obtain⟨L,M⟩:=EP v2.ok H.ok (s.small Oo) he;exact a _ _ L M m Oo
 rw[if_neg I]at he ⊢
 by_cases j:h.n.op=1
 ·rw[if_pos j]at he ⊢
  rw[if_neg Oo,if_pos j]at hr;obtain⟨n0,n1⟩:=s5 z j;obtain⟨⟨ty,vv⟩,N⟩:∃q,eZ cx h.n.a=q:=⟨_,rfl⟩
  have C:=mA n0 n1;rw[N]at C hr ⊢;cases vv with
  |none=>cases hr
  |some v=>
   have T:=((hcx _ _ C).2 v rfl).lift (qk B) (b:=h.n.a+1) Oo Oo Oo;exact a _ _ T.ok T.len m Oo
 rw[if_neg j]at he ⊢
 by_cases O:h.n.op=8
 ·rw[if_pos O]at he ⊢
  obtain⟨i,en,ty,bo,ea,a2,P,U⟩:=hB.dfn z.node' O;have o:=U.fb;have Q:tr (aP B h.n.a).body=bo:=by rw[P,U.body];exact gW o.ok
  rw[Q];exact a _ _ o.ok o.len m Oo
 rw[if_neg O]at he ⊢;rw[if_neg Oo,if_neg j]at hr
 by_cases r:h.n.op=11
 ·rw[if_pos r]at he ⊢ hr
  have V:=gd d.ok r;have kl:((kidsT h).length:Int)=2+h.n.b:=by rw[V.1];exact V.2.1
  obtain⟨a3,H,l1⟩:=cj d (k:=1);have s:=(z.kidD (k:=1) Oo).2;simp only[gX,Bool.and_eq_true,decide_eq_true_eq]at hr;obtain⟨_,_,r3,_⟩:=hr;have a4:=db s.head.ok.pl;obtain⟨_,W,_⟩:=cj d (k:=2+(headT (kidD h 1)).n.b.toNat);have R:=s.nargs;rw[rows_len]at R;have:=EQ (argsT (kidD h 1)) (eH B h.n.a);refine a _ _ W.ok W.len (λu c=>?_) ?_
  ·rcases List.mem_append.1 c with c|c
   ·exact(s.args u (List.mem_of_mem_drop c)).ok
   ·exact m u c
  ·have e:dx ((argsT (kidD h 1)).drop (eH B h.n.a)++l)=dx ((argsT (kidD h 1)).drop (eH B h.n.a))+dx l:=by
    unfold dx;rw[List.map_append,List.sum_append]
   rw[JK,e];omega
 rw[if_neg r]at he ⊢ hr
 by_cases D:h.n.op=12
 ·have c:kk h= .ok (lU h).1:=by
   unfold kk;rw[yQ,if_neg (by
    intro q;exact q he)]
   rfl
  have Y:=xf (qk B) z D Oo Oo c;exact a _ _ Y.ok Y.len m Oo
 ·rw[if_neg D]at hr
  cases hr
theorem LQ(M:Nat):∀x:Tr,Ft (QB B) (cx.length:Int) x ->(row x).length<=M ->(aM B cx x).2.2=0 ->Ok .tm (aM B cx x).1/\(row (aM B cx x).1).length<=(row x).length+4096:=by
 induction M with
 |zero=>intro x _ h;have:=aS x;omega
 |succ M c=>
  intro x a h;rw[kP (aB a)]
  by_cases hr:cf B cx x=true
  ·rw[if_pos hr]
   exact λd=>LP hB hcx hN a hr d
  ·rw[if_neg hr]
   cases b:cg x with
   |none=>exact λ_=>⟨a.ok,OS⟩
   |some p=>
    obtain⟨e,k⟩:=jL a b;simp only;unfold gN;split
    ·exact λ_=>⟨a.ok,OS⟩
    ·rename_i q
     intro _;have f:(aM B cx p).2.2=0:=Decidable.of_not_not λi=>q (.inr i);obtain⟨j,l⟩:=c p e Oo f;have m:=qx (p:=(aM B cx p).1) a b;exact⟨LO a b j,OS⟩
def rm(r:Except Int (Tr×Nat)):PV:=match r with
 | .ok q=>.tup [ah (row q.1),pI q.2,pI 0]
 | .error e=>.tup [.sl [],pI 0,pI e]
theorem yV{x:Tr}(D:Ft (QB B) (cx.length:Int) x){n:Nat}(P:n<=100000):VC prog 107 [aW B,aG (cx.map aA),ah (row x),pI n] (rm (cM B cx 4096 n x)):=by
 generalize c:cM B cx 4096 n x=e;refine vf 49 [.tmp 8,.tmp 9,.tmp 10] τok func107 ?_;refine af (iH (aB D)) ?_;refine az τok (σ:=Nat×Tr) [(1,_),(4,_),(11,_)] [(4,_)] (λq=>[(3,vI q.1)]) (λq=>[(11,.st 0 111 ((dT q.2).map .p))]) (λq=>q.1<=n/\Ft (QB B) (cx.length:Int) q.2/\cM B cx 4096 q.1 q.2=e) (λq=>q.1) (n,x) ⟨KJ _,D,c⟩ ?_
 clear c
 rintro⟨k,z⟩ ⟨F,d,f⟩;simp only at F d f;have u:=goV hB hcx hN _ z d (Nat.lt_succ_self _);have v:=LQ hB hcx hN _ z d (KJ _);have A:=EK hB hcx Oo _ z d (KJ _);obtain⟨C,H⟩:=rj _ z (aB d) (KJ _);have I:=d.len;have o:=λa=>tO (B:=B) (cx:=cx) (room:=a) (n:=k) (x:=z);have s:=λa=>tP (B:=B) (cx:=cx) (room:=a) (x:=z);have K:=λa m=>pi (B:=B) (cx:=cx) (room:=a) (n:=m) (x:=z);have i:=λa m=>tQ (B:=B) (cx:=cx) (room:=a) (n:=m) (x:=z)
 generalize hr:aM B cx z=r at *
 obtain⟨y,mv,j⟩:=r;refine aj τok<|af u ?_;cases mv with
 |false=>
  have o:=o 4096 rfl;rw[f]at o;subst o;refine af (kr 4096 Oo z (aB d) d.len) ?_;exact eA9
 |true=>
  refine ae (λq1=>?_) (λq1=>?_)
  ·have q1:(k:Int)=0:=q1
   obtain rfl:k=0:=Oo
   have s:=s 4096 rfl;rw[f]at s;subst s;exact eA9
  have q1:¬ (k:Int)=0:=q1;obtain⟨m,rfl⟩:∃m,k=m+1:=⟨k-1,Oo⟩
  have l:(j≠0 \/(4096:Int)<len y) ->e= .error 9:=λh=>by rw[<- f];exact K 4096 m rfl h
  refine ae (λb=>?_) (λb=>?_)
  ·have b:j=0:=b
   obtain⟨E,L⟩:=v b;simp only at E L;refine af (yP 10000 Oo y E Oo) ?_;refine ae (λM=>?_) (λM=>?_)
   ·have:=l (.inr (by unfold len;omega))
    subst this;refine vy (p:=(9:Int)≠0) ?_ OO;exact eA9
   ·refine vn (p:=j≠0) ?_
    refine vi ?_;have i:=i 4096 m rfl (by
     rintro(h|h)
     ·exact h b
     ·unfold len at h;simp only at h;omega)
    simp only at i;rw[f]at i;have N:=A rfl b OS;exact au (m,y) ⟨OS,N,i.symm⟩ (x:=⟨congrArg (λz=>some (vI z)) OS,trivial⟩)
  ·have b:¬ j=0:=b
   have:=l (.inl b);subst this;have O:j=9:=C.resolve_left b;subst O;refine vy (p:=(9:Int)≠0) ?_ OO;exact eA9
end
def rn(c:List (List Nd×List Nd)):Prop:=c.length<=1000000/\∀q∈c,q.1.length<=1000000/\q.2.length<=1000000
theorem LR{B:aq}(hS:dc B){c:List (List Nd×List Nd)}(hc:rn c){t:List Nd}(ht:t.length<=1000000):VC prog 27 [aW B,aG c,ah t] (pI (dO B c t)):=by
 have eC:=ak bdP c;have s:=ak aQ B.ents;have m:=tB hS;have hcl:=hc.1;have d:=λ(t:List Nd) (h:t.length<=1000000) (a:Int)=>o5 (B:=B) (known:=B.ents.length) (self:=-1) (KJ _) t h a;rw[<- s]at d;refine vf 67 [.tmp 6] τok func27 ?_;refine af m ?_;refine ae (λg=>?_) (λg=>?_)
 ·exact⟨_,_,rfl,rfl,by unfold dO;rw[if_pos g];rfl⟩
 have g:cZ B=0:=Decidable.of_not_not g;have o:∀(a:Nat) (t:List Nd),eU B a t=cw B (B.ents.map aQ).length (-1) t a:=λa t=>by
  unfold eU;rw[if_neg (by rw[g];decide),if_neg Oo,s]
 refine ae (λv=>?_) (λv=>?_)
 ·exact⟨_,_,rfl,rfl,by unfold dO;rw[if_neg (by rw[g];decide),if_pos Oo];rfl⟩
 have x:dO B c t=if gk B c 0≠0 then gk B c 0 else eU B c.length t:=by
  unfold dO;rw[if_neg (by rw[g];decide),if_neg Oo]
 rw[x]
 generalize r:gk B c 0=u
 refine az τok (σ:=Nat) [(1,_),(2,_),(3,_)] [(3,_)] (λi=>[(8,vI i)]) (λ_=>[]) (λi=>i<=c.length/\u=gk B (c.drop i) i) (λi=>c.length-i) 0 ⟨KV _,r.symm⟩ ?_;rintro i ⟨C,b⟩;refine aj τok<|ae (λk=>?_) (λk=>?_)
 ·obtain⟨q,f,y⟩:=ay (l:=c) (k:=i)
  obtain⟨q1,z⟩:=hc.2 q (JQ f);rw[y]at b;simp only[gk]at b;rw[o,o]at b;have D:=ak ndP q.2;refine vm i f ?_;refine af (d q.1 q1 i) ?_;refine vk ?_;refine ae (λe=>?_) (λe=>?_)
  ·rw[if_neg (λh=>h e)]at b
   refine vm i f ?_;refine ae (λA=>?_) (λA=>?_)
   ·rw[if_neg Oo]at b
    refine vm i f ?_;refine af (d q.2 z i) ?_;refine vk ?_;refine ae (λj=>?_) (λj=>?_)
    ·rw[if_pos j]at b
     exact⟨_,_,rfl,rfl,by rw[b,if_pos j];rfl⟩
    ·rw[if_neg j]at b
     refine vi ?_;exact au (i+1) ⟨Oo,b⟩
   ·rw[if_pos Oo]at b
    refine vn (p:=cw B (B.ents.map aQ).length (-1) q.1 i≠0) ?_ (λh=>h e);refine vi ?_;exact au (i+1) ⟨Oo,b⟩
  ·rw[if_pos e]at b
   refine vy (p:=cw B (B.ents.map aQ).length (-1) q.1 i≠0) ?_ e;exact⟨_,_,rfl,rfl,by rw[b,if_pos e];rfl⟩
 ·rw[JY Oo]at b
  have b:u=0:=b;exact af (d t ht _)<|⟨_,_,rfl,rfl,by rw[if_neg (by rw[b];decide),o,eC];rfl⟩
theorem tT{x:Tr}(f:Wf x)(h2:x.n.op=2):VC prog 54 [ah (row x)] (cr (bK x)):=by
 have hr:=iA f.ok;have a:kidsT x=[]:=by unfold kidsT;cases x;exact if_pos h2
 have i:atmsT x=x.ks.map (·.n):=by unfold atmsT;rw[if_pos h2]
 rw[a,i]at hr;simp only[cd,JD]at hr;have r:=f.len;have d:=congrArg List.length hr;simp only[JV,List.length_map]at d;have s:=ak ndP (row x);have e:∀j,j<x.ks.length ->∃k,x.ks[j]?=some k/\(row x)[j+1]?=some k.n:=λj m=>by
  obtain⟨k,a,_⟩:=ay (l:=x.ks) (k:=j) m;exact⟨k,a,by rw[hr,List.getElem?_cons_succ,JX,a];rfl⟩
 refine cA 26 [.tmp 2] τok func54 ?_;refine aj τok<|cV 3 1000 48 2 rfl rfl<|az τok (σ:=Nat×Int) [(0,_)] [] (λq=>[(3,.c (.row 1000)),(4,vI q.2)]) (λq=>[(1000,.rw 48 2 (((bK x).take q.1).map atP))]) (λq=>q.1<=x.ks.length/\q.2=(q.1:Int)+1) (λq=>x.ks.length-q.1) (0,1) ⟨KV _,rfl⟩ ?_;rintro⟨j,v⟩ ⟨o,p⟩;simp only at o p;refine aj τok<|ae (λg=>?_) (λg=>?_)
 ·simp only at g
  obtain⟨k,a,b⟩:=e j Oo;refine vm (j+1) b ?_ OS;refine vm (j+1) b ?_ OS;refine aV ?_ (hb:=OK);refine vk ?_;refine vi ?_;exact au (j+1,v+1) ⟨OS,OS⟩ (sw 1000 24) (y':=⟨congrArg (λl=>some (SE.rw _ _ l)) (by
   rw[List.take_add_one,List.map_append];unfold bK;rw[JX,a]
   rfl),trivial⟩)
 ·simp only at g
  rw[JG (by simp[bK];omega)];exact eA9
def cC(cx:Ctx)(x:Tr)(i:Nat):Ctx:=if (x.n.op=4 \/x.n.op=5)/\i=1 then cx++[(kidD x 0,none)]else if x.n.op=12/\i%2=1 then cx++bi x else cx
theorem ER{cx:Ctx}{x:Tr}{Q:Nd ->Prop}(F:Qk Q){N:Int}(y:Ft Q N x)(W:0<=N)(hN:N<=90000)(hc:cx.length<=1000)(i:Nat)(hi:i<=1000):VC prog 66 [aG (cx.map aA),ah (row x),pI i] (aG ((cC cx x i).map aA)):=by
 have m:=aB y;have a:(row x)[0]?=some x.n:=by rw[iA y.ok];rfl
 have H:=ak aA cx;have I:=gA y.ok;have K:=iI m;refine vf 76 [.tmp 6] τok func66 ?_;refine va (p:=bdP) ?_ (Et _);refine af K ?_;refine vm 0 a ?_;have f:¬ ((x.n.op=4 \/x.n.op=5)/\i=1) ->¬ x.n.op=12 ->cC cx x i=cx:=λo r=>by unfold cC;rw[if_neg o,if_neg λq=>r q.1]
 have z:(x.n.op=4 \/x.n.op=5) ->i=1 ->cC cx x i=cx++[(kidD x 0,none)]:=λo r=>by unfold cC;rw[if_pos ⟨o,r⟩]
 have one:(x.n.op=4 \/x.n.op=5) ->((kidsT x).map row)[0]?=some (row (kidD x 0)):=λh=>by
  obtain⟨e,_⟩:=gM m h;rw[e]
  rfl
 have fin:(x.n.op=4 \/x.n.op=5) ->i=1 ->PV.sl ((cx.map aA).map bdP++[[ah (row (kidD x 0)),.sl []]])=aG ((cC cx x i).map aA):=λo r=>by
  rw[z o r];unfold aG;rw[List.map_append,List.map_append]
  rfl
 refine ae (λA=>?_) (λA=>?_)
 ·refine ae (λs=>?_) (λs=>?_)
  ·refine vm (p:=rP) 0 (one (.inl A)) ?_
   refine aV ?_;refine vm 0 a ?_;exact vn<|⟨_,_,rfl,rfl,fin (.inl A) Oo⟩
  ·refine vm 0 a ?_
   exact vn<|⟨_,_,rfl,rfl,by rw[f Oo Oo];rfl⟩
 refine vm 0 a ?_;refine ae (λC=>?_) (λC=>?_)
 ·refine ae (λs=>?_) (λs=>?_)
  ·refine vm (p:=rP) 0 (one (.inr C)) ?_
   refine aV ?_;refine vm 0 a ?_;exact vn<|⟨_,_,rfl,rfl,fin (.inr C) Oo⟩
  ·refine vm 0 a ?_
   exact vn<|⟨_,_,rfl,rfl,by rw[f Oo Oo];rfl⟩
 refine vm 0 a ?_;refine ae (λd=>?_) (λd=>?_)
 ·refine ou Oo Oo Oo ?_
  refine ae (λs=>?_) (λs=>?_)
  ·have Y:=fK m.ok d
   have L:=dM m.ok d;have M:cC cx x i=cx++bi x:=by unfold cC;rw[if_neg Oo,if_pos ⟨d,Oo⟩]
   have O:(bi x).length=x.n.b.toNat:=by simp[bi]
   refine az τok (σ:=Nat) [(1,_),(8,_)] [] (λj=>[(7,.c (.row 1000)),(9,vI j)]) (λj=>[(1000,.rw 72 2 ((cx.map aA).map bdP++(((bi x).take j).map aA).map bdP))]) (λj=>j<=x.n.b.toNat) (λj=>x.n.b.toNat-j) 0 (KV _) ?_ (sw 1000 14) (y1:=⟨congrArg (λl=>some (SE.rw _ _ l)) (by simp[cQ]),trivial⟩);rintro j Z;have e5:((bi x).take j).length=j:=by rw[List.length_take];omega
   refine aj τok<|vm 0 a ?_;refine ae (λP=>?_) (λP=>?_)
   ·obtain⟨R,u,lk⟩:=cj m (k:=2*j)
    have D:=(y.kidD (k:=2*j) Oo).2;have S:kb x.n (2*j)=0:=by unfold kb;rw[if_pos d,if_neg Oo]
    rw[S]at D;have T:=D.small Oo;have hr:=qM (j:Int) Oo 4096 Oo (kidD x (2*j)) 0 u ⟨Oo,by have:=u.len;omega⟩ u.len;have U:=tw (x:=kidD x (2*j)) (fr:=0) u.ok T (b:=(j:Int)) Oo;rw[<- U]at hr;have E:=D.lift F (b:=(j:Int)) Oo Oo Oo;have v:=kr 4096 Oo _ (aB E) E.len;refine vi ?_;refine vm (p:=rP) (2*j) (x:=row (kidD x (2*j))) (by rw[JX,R];rfl) ?_;refine af (iH u) ?_;refine af hr ?_;refine af v ?_;refine aV ?_ (hb:=OK);refine vi ?_;exact au (j+1) (by show j+1<=_;omega) (sw 1000 74) (y':=⟨congrArg (λl=>some (SE.rw _ _ l)) (by
     have V:(bi x)[j]?=some (aH (kidD x (2*j)) j 0,none):=by
      unfold bi;rw[JX,List.getElem?_range Oo]
      rfl
     rw[List.take_add_one,V,List.map_append,List.map_append,<- List.append_assoc]
     rfl),trivial⟩)
   ·rw[JG Oo]
    exact⟨_,_,rfl,rfl,by rw[M];unfold aG;rw[List.map_append,List.map_append];rfl⟩
  ·exact⟨_,_,rfl,rfl,by
    have e:cC cx x i=cx:=by unfold cC;rw[if_neg Oo,if_neg Oo]
    rw[e]
    rfl⟩
 ·exact⟨_,_,rfl,rfl,by rw[f Oo d];rfl⟩
theorem ES(m:Except Int (Bool×Nat)):fP m (λn=>.ok (true,n))=m:=by
 unfold fP;cases m with
 |error e=>rfl
 |ok q=>
  obtain⟨b,n⟩:=q;cases b<;>rfl
def kidsL(rc:RcC)(cx:Ctx)(f:Tr)(u:Bool):Nat ->List Tr ->List Tr ->Nat ->Except Int (Bool×Nat)
 |i,x::r,y::s,n=>fP (rc (cC cx f i) x y ((u && decide (f.n.op=4)) && decide (i=1)) n) (kidsL rc cx f u (i+1) r s)
 |_,_,_,n=>.ok (true,n)
def yW(B:aq)(rc:RcC)(cx:Ctx)(f g:Tr)(u:Bool)(n:Nat):Except Int (Bool×Nat):=
 if f.n.op=2/\gD B f g u=false then .ok (false,n)
 else if (f.n.op≠2/\f.n.op≠4/\f.n.op≠5)/\f.n≠g.n then .ok (false,n)
 else if funsT f≠funsT g then .ok (false,n)
 else kidsL rc cx f u 0 (kidsT f) (kidsT g) n
theorem ET{rc:RcC}{cx:Ctx}{f:Tr}{u:Bool}(h4:f.n.op≠4)(b:f.n.op≠5)(a:f.n.op≠12):∀(l m:List Tr) (i n:Nat),kidsL rc cx f u i l m n=cX rc cx l m n
 |[],_,_,_=>by simp[kidsL,cX]
 |_::_,[],_,_=>by simp[kidsL,cX]
 |x::r,y::s,i,n=>by
  have e:cC cx f i=cx:=by unfold cC;rw[if_neg Oo,if_neg Oo]
  simp only[kidsL,cX];rw[e,decide_eq_false h4,Bool.and_false,Bool.false_and]
  congr 1
  funext n
  exact ET h4 b a r s (i+1) n
theorem EU{rc:RcC}{cx:Ctx}{f:Tr}{u:Bool}(c:f.n.op=12):∀(l m:List Tr) (i n:Nat),i%2=0 ->l.length%2=0 ->l.length=m.length ->kidsL rc cx f u i l m n=dN rc cx (cx++bi f) l m n
 |[],[],_,_,_,_,_=>by simp[kidsL,dN]
 |[],_::_,_,_,_,_,h=>by simp at h
 |_::_,[],_,_,_,_,h=>by simp at h
 |[_],_,_,_,_,h,_=>by simp at h
 |_::_::_,[_],_,_,_,_,h=>by simp at h
 |x::a::r,y::b::s,i,n,k,hl,he=>by
  have d:cC cx f i=cx:=by unfold cC;rw[if_neg Oo,if_neg Oo]
  have e:cC cx f (i+1)=cx++bi f:=by unfold cC;rw[if_neg Oo,if_pos Oo]
  have j:¬ f.n.op=4:=Oo
  simp only[kidsL,dN];rw[d,e,decide_eq_false j,Bool.and_false,Bool.false_and,Bool.false_and]
  congr 1
  funext n
  congr 1
  funext n
  exact EU c r s (i+1+1) n Oo (by simp only[JV]at hl;omega) (by simpa using he)
theorem tU{f:Tr}(m:Wf f)(d:f.n.op=12):funsT f=(placesM f).map λa=>⟨13,a,0⟩:=by
 unfold funsT placesM;rw[if_pos d,List.map_map];refine List.map_congr_left λk e=>?_;obtain⟨j,p⟩:=JH e;obtain⟨q,r,_,c,l,_⟩:=kj m.ok d p;have i:k.n.b=0:=by
  simp[aw,c]at l;exact l.2
 show k.n=⟨13,k.n.a,0⟩
 cases e:k.n with
 |mk o a b=>
  rw[e]at c i;simp only at c i;rw[c,i]
theorem LS(B:aq)(rc:RcC)(cx:Ctx){f g:Tr}(j:Wf f)(k:Wf g)(y:f.n.op=g.n.op)(u:Bool)(n:Nat):iC B rc cx f g u n=yW B rc cx f g u n:=by
 have a:∀x:Tr,x.n.op≠12 ->funsT x=[]:=λx h=>if_neg h;unfold iC yW
 by_cases e:f.n.op=2
 ·have r:kidsT f=[]:=by unfold kidsT;cases f;exact if_pos e
  rw[if_pos e];cases z:gD B f g u with
  |false=>rw[if_pos ⟨e,rfl⟩]
  |true=>
   rw[if_neg (by rintro⟨_,h⟩;cases h),if_neg (λh=>h.1.1 e),a f Oo,a g Oo,if_neg Od,r];simp[kidsL]
 rw[if_neg e,if_neg (show ¬ (f.n.op=2/\gD B f g u=false)from λh=>e h.1)]
 by_cases d:f.n.op=4
 ·obtain⟨m,_⟩:=gM j (.inl d)
  obtain⟨o,_⟩:=gM k (.inl Oo);have p:cC cx f 0=cx:=by unfold cC;rw[if_neg Oo,if_neg Oo]
  have q:cC cx f 1=cx++[(kidD f 0,none)]:=by unfold cC;rw[if_pos Oo]
  rw[if_pos d,if_neg (λh=>h.1.2.1 d),a f Oo,a g Oo,if_neg Od,m,o];simp only[kidsL];rw[p,q,decide_eq_true d];simp only[Bool.and_true]
  congr 1
  ·simp
  ·funext n
   simp[ES]
 rw[if_neg d]
 by_cases i:f.n.op=5
 ·obtain⟨m,_⟩:=gM j (.inr i)
  obtain⟨o,_⟩:=gM k (.inr Oo);have p:cC cx f 0=cx:=by unfold cC;rw[if_neg Oo,if_neg Oo]
  have q:cC cx f 1=cx++[(kidD f 0,none)]:=by unfold cC;rw[if_pos Oo]
  rw[if_pos i,if_neg (λh=>h.1.2.2 i),a f Oo,a g Oo,if_neg Od,m,o];simp only[kidsL];rw[p,q,decide_eq_false d];simp only[Bool.and_false,Bool.false_and]
  congr 1
  funext n
  simp[ES]
 rw[if_neg i]
 by_cases b:f.n.op=12
 ·rw[if_pos b]
  by_cases c:f.n=g.n
  ·rw[if_pos c,if_neg (show ¬ ((f.n.op≠2/\f.n.op≠4/\f.n.op≠5)/\f.n≠g.n)from λh=>h.2 c)]
   have s:=fK j.ok b;have v:=fK k.ok Oo;have A:f.n.b=g.n.b:=by rw[c]
   unfold lD
   by_cases l:placesM f=placesM g
   ·rw[if_pos l,if_neg (by rw[tU j b,tU k Oo,l];simp),EU b _ _ 0 n rfl Oo Oo]
   ·rw[if_neg l,if_pos]
    intro h;rw[tU j b,tU k Oo]at h;refine l ?_;have:=congrArg (List.map Nd.a) h;rw[List.map_map,List.map_map]at this;exact(List.map_id _).symm.trans (this.trans (List.map_id _))
  ·rw[if_neg c,if_pos ⟨⟨e,d,i⟩,c⟩]
 ·rw[if_neg b]
  by_cases c:f.n=g.n
  ·rw[if_pos c,if_neg (show ¬ ((f.n.op≠2/\f.n.op≠4/\f.n.op≠5)/\f.n≠g.n)from λh=>h.2 c),a f b,a g Oo,if_neg Od,ET d i b]
  ·rw[if_neg c,if_pos ⟨⟨e,d,i⟩,c⟩]
def pj(r:Except Int (Bool×Nat)):PV:=match r with
 | .ok q=>.tup [.bool q.1,pI q.2,pI 0]
 | .error e=>.tup [.bool false,pI 0,pI e]
def ro(B:aq)(g:Nat):Prop:=∀(cx:Ctx) (x y:Tr) (u:Bool) (n:Nat),CxOk B cx ->cx.length<=260 ->Ft (QB B) (cx.length:Int) x ->Ft (QB B) (cx.length:Int) y ->n<=g ->n<=100000 ->VC prog 119 [aW B,aG (cx.map aA),ah (row x),ah (row y),pI n,.bool u] (pj (cT B g cx x y u n))
theorem EV{B:aq}{cx:Ctx}(hB:GoodB B)(hcx:CxOk B cx)(hN:cx.length<=300){x z:Tr}{n b:Nat}(d:Ft (QB B) (cx.length:Int) x)(i:n<=100000)(h:cM B cx 4096 n x= .ok (z,b)):Ft (QB B) (cx.length:Int) z/\b<=n:=by
 have e:=tR hB hcx Oo d (n:Int);have f:bE (n:Int)=n:=by unfold bE;omega
 rw[f,h]at e;unfold dC at e;obtain⟨a,_,c⟩:=oH hB hcx Oo _ x 4096 _ z b d (by have:=d.len;unfold len;omega) Oo e;exact⟨a,by rw[f]at c;exact c⟩
theorem yX{B:aq}{cx:Ctx}{room:Int}:∀(n:Nat) (x:Tr) (e:Int),cM B cx room n x= .error e ->e=9 \/e=10
 |0,x,e,h=>by
  simp only[cM]at h;split at h
  ·cases h
  ·injection h with h
   exact .inr h.symm
 |n+1,x,e,h=>by
  simp only[cM]at h;split at h
  ·cases h
  ·split at h
   ·injection h with h
    exact .inl h.symm
   ·exact yX n _ e h
theorem tV{B:aq}{cx:Ctx}:∀(g:Nat) (x:Tr) (room:Int) (n:Nat) (e:Int),bY B cx g x room n= .error e ->e≠0
 |0,x,room,n,e,h=>by
  injection h with h
  omega
 |g+1,x,room,n,e,h=>by
  simp only[bY]at h;cases a:gY (bY B cx g) x room n with
  |error d=>
   rw[a]at h;have h:(.error d:Except Int (Tr×Nat))= .error e:=h;injection h with h
   subst h;unfold gY at a;cases f:cg x with
   |none=>rw[f]at a;cases a
   |some p=>
    rw[f]at a;simp only at a;cases hr:bY B cx g p (room-len x+len p) n with
    |error b=>
     rw[hr]at a;have a:(.error b:Except Int (Tr×Nat))= .error d:=a;injection a with a
     subst a;exact tV g _ _ _ _ hr
    |ok q=>rw[hr]at a;cases a
  |ok q=>
   rw[a]at h;have h:gZ B cx (bY B cx g) room q= .error e:=h;unfold gZ at h;split at h
   ·split at h
    ·injection h with h;omega
    ·cases c:gf B cx q.1 with
     |error b=>
      rw[c]at h;have h:(.error b:Except Int (Tr×Nat))= .error e:=h;injection h with h
      have:=CT c;omega
     |ok z=>
      rw[c]at h;simp only at h;split at h
      ·injection h with h;omega
      ·exact tV g _ _ _ _ h
   ·cases h
def tW(rc:RcC):Prop:=∀cx x y u n e,rc cx x y u n= .error e ->e≠0
theorem pk{m:Except Int (Bool×Nat)}{k:Nat ->Except Int (Bool×Nat)}{e:Int}(h1:∀e,m= .error e ->e≠0)(h2:∀n e,k n= .error e ->e≠0)(h:fP m k= .error e):e≠0:=by
 unfold fP at h;cases m with
 |error a=>
  injection h with h
  exact h▸h1 a rfl
 |ok q=>
  simp only at h;split at h
  ·exact h2 _ _ h
  ·cases h
theorem yY{rc:RcC}(hr:tW rc)(cx:Ctx):∀(l m:List Tr) (n:Nat) (e:Int),cX rc cx l m n= .error e ->e≠0
 |[],_,_,_,h=>by simp[cX]at h
 |_::_,[],_,_,h=>by simp[cX]at h
 |x::r,y::s,n,e,h=>by
  simp only[cX]at h;exact pk (λe h=>hr _ _ _ _ _ _ h) (λn e h=>yY hr cx r s n e h) h
theorem EW{rc:RcC}(hr:tW rc)(cx c:Ctx):∀(l m:List Tr) (n:Nat) (e:Int),dN rc cx c l m n= .error e ->e≠0
 |[],_,_,_,h=>by simp[dN]at h
 |[_],_,_,_,h=>by simp[dN]at h
 |_::_::_,[],_,_,h=>by simp[dN]at h
 |_::_::_,[_],_,_,h=>by simp[dN]at h
 |x::a::r,y::b::s,n,e,h=>by
  simp only[dN]at h;exact pk (λe h=>hr _ _ _ _ _ _ h) (λn e h=>pk (λe h=>hr _ _ _ _ _ _ h) (λn e h=>EW hr cx c r s n e h) h) h
theorem LU{B:aq}{rc:RcC}(hr:tW rc)(cx:Ctx)(f g:Tr)(u:Bool)(n:Nat)(e:Int)(h:iC B rc cx f g u n= .error e):e≠0:=by
 unfold iC at h;split at h
 ·cases h
 split at h
 ·exact pk (λe h=>hr _ _ _ _ _ _ h) (λn e h=>hr _ _ _ _ _ _ h) h
 split at h
 ·exact pk (λe h=>hr _ _ _ _ _ _ h) (λn e h=>hr _ _ _ _ _ _ h) h
 split at h
 ·split at h
  ·unfold lD at h
   split at h
   ·exact EW hr _ _ _ _ _ _ h
   ·cases h
  ·cases h
 split at h
 ·exact yY hr _ _ _ _ _ h
 ·cases h
theorem yZ(B:aq):∀g,tW (cT B g)
 |0,cx,x,y,u,n,e,h=>by
  injection h with h
  omega
 |g+1,cx,x,y,u,n,e,h=>by
  simp only[cT]at h;split at h
  ·injection h with h;omega
  split at h
  ·cases h
  split at h
  ·injection h with h;omega
  split at h
  ·rename_i a h1
   injection h with h
   subst h;exact tV _ _ _ _ _ h1
  ·split at h
   ·rename_i a h1
    injection h with h
    subst h;exact tV _ _ _ _ _ h1
   ·unfold mF at h
    split at h
    ·cases h
    ·exact pk (λe h=>LU (yZ B g) _ _ _ _ _ _ h) (λn e h=>yY (yZ B g) _ _ _ _ _ h) h
theorem rq{B:aq}(hB:GoodB B)(g:Nat)(cx:Ctx)(x y:Tr)(u:Bool)(n:Nat)(e:Int)(h:cT B g cx x y u n= .error e):e≠0:=yZ B g _ _ _ _ _ _ h
theorem EX{B:aq}{cx:Ctx}{room:Int}:∀(n:Nat) (x z:Tr) (a:Nat),cM B cx room n x= .ok (z,a) ->(aM B cx z).2.1=false
 |0,x,z,a,h=>by
  simp only[cM]at h;split at h
  ·rename_i g
   injection h with h
   injection h with h1 h2
   subst h1;exact g
  ·cases h
 |n+1,x,z,a,h=>by
  simp only[cM]at h;split at h
  ·rename_i g
   injection h with h
   injection h with h1 h2
   subst h1;exact g
  ·split at h
   ·cases h
   ·exact EX n _ z a h
theorem LV{B:aq}{cx:Ctx}{z:Tr}(a:Wf z)(h:(aM B cx z).2.1=false):(headT z).n.op≠7:=λb=>by
 have hr:cf B cx z=true:=by
  unfold cf;rw[if_neg Oo,if_pos (.inl b)]
 rw[kP a,if_pos hr]at h;cases h
theorem LW{B:aq}{cx:Ctx}{f:Tr}(hcx:CxOk B cx)(hN:cx.length<=300)(d:Ft (QB B) (cx.length:Int) f)(p:f.n.op≠7)(i:Nat):CxOk B (cC cx f i)/\((cC cx f i).length:Int)=cx.length+kb f.n i:=by
 have m:=aB d;unfold cC
 by_cases c:(f.n.op=4 \/f.n.op=5)/\i=1
 ·rw[if_pos c]
  obtain⟨e,_⟩:=gM m c.1;have o:=(d.kidD (k:=0) (by rw[e];simp)).2;have j:kb f.n 0=0:=by unfold kb;rw[if_neg Oo];simp[aY]
  have l:kb f.n i=1:=by unfold kb;rw[if_neg Oo];simp[aY];omega
  rw[j,Int.add_zero]at o;rw[l];exact⟨hcx.snoc o (λx r=>by cases r),Od⟩
 rw[if_neg c]
 by_cases a:f.n.op=12/\i%2=1
 ·rw[if_pos a]
  have s:=dM m.ok a.1;have l:kb f.n i=f.n.b:=by unfold kb;rw[if_pos a.1,if_pos a.2]
  rw[l];refine⟨nO hcx Oo d a.1,?_⟩;rw[JK];simp only[bi,List.length_map,List.length_range];omega
 rw[if_neg a];have j:kb f.n i=0:=by
  unfold kb
  by_cases b:f.n.op=12
  ·rw[if_pos b,if_neg (λq=>a ⟨b,q⟩)]
  ·rw[if_neg b]
   unfold aY;rw[if_neg];rintro(q|q)
   ·exact c ⟨q.1,Oo⟩
   ·exact p q.1
 rw[j];exact⟨hcx,Oo⟩
section
variable{B:aq}(hS:dc B)(hB:GoodB B)
include hS hB
theorem LX{g:Nat}(ih:ro B g){cx:Ctx}{x y:Tr}{u:Bool}{n:Nat}(hcx:CxOk B cx)(hcl:cx.length<=260)(hx:Ft (QB B) (cx.length:Int) x)(hy:Ft (QB B) (cx.length:Int) y)(b9:n<=g+1)(O:n<=100000):VC prog 119 [aW B,aG (cx.map aA),ah (row x),ah (row y),pI n,.bool u] (pj (cT B (g+1) cx x y u n)):=by
 have eC:=ak bdP (cx.map aA);have b':=ak aA cx;have c0:=hx.len;have c2:=hy.len;generalize c:cT B (g+1) cx x y u n=v;simp only[cT]at c;refine cA 262 [.tmp 12,.tmp 13,.tmp 14] τok func119 ?_;refine aC τok<|aC τok<|ae (λg0=>?_) (λg0=>?_)
 ·rw[if_pos Oo]at c
  subst c;exact eA9
 rw[if_neg Oo]at c;obtain⟨m,rfl⟩:∃m,n=m+1:=⟨n-1,Oo⟩
 rw[Nat.add_sub_cancel]at c;have em:((m+1:Nat):Int)-1=(m:Int):=Oo
 refine aC τok<|vi ?_;refine aC τok<|bH (jX (a:=row x) (b:=row y) Oo Oo) (λs=>?_) (λs=>?_)
 ·rw[if_pos (of_decide_eq_true s)]at c
  subst c;exact⟨_,_,rfl,rfl,by rw[em];rfl⟩
 rw[if_neg (of_decide_eq_false s)]at c;refine aC τok<|ae (λg1=>?_) (λg1=>?_)
 ·rw[if_pos Oo]at c
  subst c;exact eA9
 rw[if_neg Oo]at c;refine aC τok ?_;have b4:bE (m:Int)=m:=by unfold bE;omega
 rw[tR hB hcx Oo hx,b4]at c;have wx:=yV hB hcx Oo hx (n:=m) Oo;cases K:cM B cx 4096 m x with
 |error e=>
  rw[K]at wx c;have c:(.error e:Except Int (Bool×Nat))=v:=c;subst c;refine af (r:=rm (.error e)) (by rw[em];exact wx) ?_;refine aC τok ?_;have he:=yX _ _ _ K;refine vy (p:=e≠0) ?_;exact eA9
 |ok p=>
 rw[K]at wx c;obtain⟨x',m1⟩:=p;obtain⟨P,c3⟩:=EV hB hcx Oo hx Oo K;refine af (r:=rm (.ok (x',m1))) (by rw[em];exact wx) ?_;refine aC τok<|vn ?_;refine aC τok ?_;simp only at c;have a5:bE (m1:Int)=m1:=by unfold bE;omega
 rw[tR hB hcx Oo hy,a5]at c;have wy:=yV hB hcx Oo hy (n:=m1) Oo;cases Q:cM B cx 4096 m1 y with
 |error e=>
  rw[Q]at wy c;have c:(.error e:Except Int (Bool×Nat))=v:=c;subst c;refine af wy ?_;refine aC τok ?_;have he:=yX _ _ _ Q;refine vy (p:=e≠0) ?_;exact eA9
 |ok p=>
 rw[Q]at wy c;obtain⟨y',W⟩:=p;obtain⟨L,c4⟩:=EV hB hcx Oo hy Oo Q;refine af wy ?_;refine aC τok<|vn ?_;simp only at c;have sx:=yh (aB P);have sy:=yh (aB L);refine aC τok<|af sx ?_;refine aC τok<|af sy ?_;unfold mF at c;have ff:=P.head;have fg:=L.head;have la:=P.args;have lb:=L.args;have D:=aB ff;have M:=aB fg;have bl:=mV (aB L) 4096 L.len;have e7:=ak row (argsT x');have e8:=ak row (argsT y')
 generalize hf:headT x'=f at *
 generalize hg:headT y'=h at *
 generalize hl:argsT x'=l at *
 generalize hm:argsT y'=k at *
 refine aC τok<|vm 0 (aJ D) ?_;refine aC τok<|vm 0 (aJ M) ?_;refine ae (λT=>?_) (λT=>?_)
 ·rw[if_pos (.inl T)]at c
  subst c;exact eA9
 have T:f.n.op=h.n.op:=Decidable.of_not_not T;have e9:((l.map row).map λt=>[ah t]).length=l.length:=Od
 have c5:((k.map row).map λt=>[ah t]).length=k.length:=Od
 refine ae (λg3=>?_) (λg3=>?_)
 ·rw[if_pos (.inr Oo)]at c
  subst c;exact eA9
 rw[if_neg (by
  rintro(q|q)
  ·exact q T
  ·omega),LS B _ cx D M T u W]at c
 unfold yW at c;have lf:=λh2=>tT D h2;have lg:=λh2=>tT M h2;have c6:=D.len;have g7:f.n.op≠7:=by
  rw[<- hf];exact LV (aB P) (EX _ _ _ _ K)
 refine dB τok (σ:=Unit) [(1,_),(4,_),(5,_),(6,_),(16,_),(17,_),(18,_),(19,_),(20,_)] [(6,_)] (λ_=>[]) (λ_=>[]) (λ_=>¬ (f.n.op=2/\gD B f h u=false)) ?_ ?_
 ·refine ae (λI=>?_) (λI=>?_)
  rotate_left
  ·exact au () λq=>I q.1
  have I:f.n.op=2:=I;have lf:=lf I;have lg:=lg Oo;have R:∀z:Tr,Wf z ->z.n.op=2 ->(bK z).length<=1000000:=λz hz h2=>by
   have hr:=congrArg List.length (iA hz.ok);have ha:atmsT z=z.ks.map (·.n):=by unfold atmsT;rw[if_pos h2]
   have:=hz.len;rw[ha]at hr;simp only[JV,JK,List.length_map]at hr;simp only[bK,List.length_map];omega
  have ul:=DX (vars:=B.vars) hS.o (R f D I) (R h M Oo);have ur:=DX (vars:=B.vars) hS.o (R h M Oo) (R f D I);have no:gD B f h u=false ->v= .ok (false,W):=λhs=>by
   rw[if_pos ⟨I,hs⟩]at c;exact c.symm
  refine af lf ?_;refine af lg ?_;refine vm 0 (aJ D) ?_;refine vm 0 (aJ M) ?_;refine ae (λU=>?_) (λU=>?_);rotate_left
  ·have:=no (by unfold gD;rw[decide_eq_false (show ¬ f.n.a=h.n.a from U),Bool.false_and])
   subst this;exact kA9
  refine bH ul (λs1=>?_) (λs1=>?_);rotate_left
  ·have:=no (by unfold gD;rw[s1];simp)
   subst this;exact kA9
  cases u with
  |true=>
   refine vk ?_;exact au () λq=>by
    have hs:gD B f h true=true:=by unfold gD;rw[decide_eq_true (show f.n.a=h.n.a from U),s1];simp
    rw[hs]at q;cases q.2
  |false=>
   refine bH ur (λs2=>?_) (λs2=>?_)
   ·refine vk ?_
    exact au () λq=>by
     have hs:gD B f h false=true:=by unfold gD;rw[decide_eq_true (show f.n.a=h.n.a from U),s1,s2];rfl
     rw[hs]at q;cases q.2
   ·have:=no (by unfold gD;rw[s1,s2];simp)
    subst this;exact kA9
 rintro⟨⟩ hM;rw[if_neg hM]at c;refine dB τok (σ:=Unit) [(1,_),(4,_),(5,_),(6,_),(16,_),(17,_),(18,_),(19,_),(20,_)] [(6,_)] (λ_=>[]) (λ_=>[]) (λ_=>¬ ((f.n.op≠2/\f.n.op≠4/\f.n.op≠5)/\f.n≠h.n)) ?_ ?_
 ·refine ae (λI=>?_) (λI=>?_)
  rotate_left
  ·exact vk (au () λq=>I q.1.1)
  refine ae (λU=>?_) (λU=>?_);rotate_left
  ·exact vk (au () λq=>U q.1.2.1)
  refine ae (λg6=>?_) (λg6=>?_);rotate_left
  ·exact vk (au () λq=>g6 q.1.2.2)
  refine vm 0 (aJ D) ?_;refine vm 0 (aJ M) ?_;refine tl ?_
  by_cases O:f.n=h.n
  ·rw[decide_eq_true O]
   exact vk (au () λq=>q.2 O)
  ·rw[decide_eq_false O]
   rw[if_pos ⟨⟨I,U,g6⟩,O⟩]at c;have c:(.ok (false,W):Except Int (Bool×Nat))=v:=c;subst c;exact vk ⟨_,_,rfl,rfl,rfl⟩
 rintro⟨⟩ Y;rw[if_neg Y]at c;refine aj τok ?_;have c7:(funsT f).length<=4096:=by have:=EG D.ok;omega
 have c8:=gA D.ok;have c9:=ak ndP (funsT f);have c':=ak ndP (funsT h);have d0:=ak trP (kidsT f);have b5:f.n.op=2 ->kidsT f=[]:=λq=>by unfold kidsT;cases f;exact if_pos q
 have d2:(kidsT f).length=(kidsT h).length:=by
  have V:=(oZ D.ok).1;have a2:=(oZ M.ok).1;have c1:bq f.n=bq h.n:=by
   by_cases q:f.n.op=2 \/f.n.op=4 \/f.n.op=5
   ·unfold bq
    rw[<- T];rcases q with q|q|q<;>simp[q]
   ·rw[Decidable.byContradiction λO:¬ f.n=h.n=>Y ⟨Oo,O⟩]
  omega
 have d3:(funsT f).length=(funsT h).length:=by
  by_cases a6:f.n.op=12
  ·have V:=(oZ D.ok).2.2 a6
   have a2:=(oZ M.ok).2.2 Oo;omega
  ·rw[show funsT f=[]from if_neg a6,show funsT h=[]from if_neg Oo]
 refine af (iH D) ?_;refine af (iH M) ?_;refine az τok (σ:=Nat) [(1,_),(4,_),(5,_),(6,_),(16,_),(17,_),(19,_),(20,_),(24,_),(26,_)] [(6,_),(24,_),(26,_)] (λi=>[(28,vI i)]) (λ_=>[]) (λi=>i<=(funsT f).length/\∀j,j<i ->(funsT f)[j]?=(funsT h)[j]?) (λi=>(funsT f).length-i) 0 ⟨KV _,λj hj=>absurd hj Oo⟩ ?_;rintro i ⟨p1,p2⟩;refine aj τok<|ae (λp3=>?_) (λp3=>?_)
 ·obtain⟨V,E,_⟩:=ay (l:=funsT f) (k:=i)
  obtain⟨b1,H,_⟩:=ay (l:=funsT h) (k:=i);refine vm i E ?_;refine vm i H ?_;refine tl ?_
  by_cases p4:V=b1
  ·rw[decide_eq_true p4]
   refine vk ?_;refine vi ?_;refine au (i+1) ⟨Oo,λj hj=>?_⟩
   by_cases p5:j=i
   ·rw[p5,E,H,p4]
   ·exact p2 j Oo
  ·rw[decide_eq_false p4]
   have b6:funsT f≠funsT h:=λq=>p4 (by rw[q,H]at E;exact(JB E).symm);rw[if_pos b6]at c;have c:(.ok (false,W):Except Int (Bool×Nat))=v:=c;subst c;exact vk ⟨_,_,rfl,rfl,rfl⟩
 have b7:funsT f=funsT h:=List.ext_getElem? λj=>by
  by_cases p4:j<(funsT f).length
  ·exact p2 j Oo
  ·rw[List.getElem?_eq_none Oo,List.getElem?_eq_none Oo]
 rw[if_neg (λq=>q b7)]at c;refine az τok (σ:=Nat×Nat) [(1,_),(5,_),(6,_),(16,_),(17,_),(19,_),(20,_),(24,_),(26,_)] [(6,_),(24,_),(26,_)] (λq=>[(29,vI q.1),(4,vI q.2)]) (λ_=>[]) (λq=>q.1<=(kidsT f).length/\q.2<=W/\fP (kidsL (cT B g) cx f u q.1 ((kidsT f).drop q.1) ((kidsT h).drop q.1) q.2) (cX (cT B g) cx l k)=v) (λq=>(kidsT f).length-q.1) (0,W) ⟨KV _,KJ _,c⟩ ?_
 clear c
 rintro⟨i,Z⟩ ⟨r1,r2,o⟩;simp only at r1 r2 o;refine aj τok<|ae (λN=>?_) (λN=>?_)
 ·simp only at N
  obtain⟨a7,a8,d4⟩:=cj D (k:=i);obtain⟨a9,a',dK⟩:=cj M (k:=i);have b0:=(ff.kidD (k:=i) Oo).2;have a0:=(fg.kidD (k:=i) Oo).2;obtain⟨ic,il⟩:=LW hcx Oo ff g7 i;have d5:=mU D.ok i;have b8:kb h.n i=kb f.n i:=by
   have q2:f.n.op≠2:=λq=>by
    rw[b5 q]at N;simp only[List.map_nil,JU]at N;omega
   by_cases q:f.n.op=4 \/f.n.op=5
   ·simp[kb,aY,<- T,show ¬ f.n.op=12 by omega,q]
   ·rw[Decidable.byContradiction λO:¬ f.n=h.n=>Y ⟨⟨q2,Oo⟩,O⟩]
  rw[b8]at a0;rw[<- il]at b0 a0;have A:=λb=>ih (cC cx f i) (kidD f i) (kidD h i) b Z ic Oo b0 a0 Oo Oo;obtain⟨z1,b2,a3⟩:=ay (l:=kidsT f) (k:=i);obtain⟨z2,b3,a4⟩:=ay (l:=kidsT h) (k:=i);rw[a7]at b2;rw[a9]at b3;obtain rfl:=JB b2;obtain rfl:=JB b3;rw[a3,a4]at o;simp only[kidsL]at o;refine af (ER (qk B) ff Oo Oo Oo i Oo) ?_;refine vt i a7 ?_;refine af (kr 4096 Oo _ a8 a8.len) ?_;refine vt i a9 ?_;refine af (kr 4096 Oo _ a' a'.len) ?_;cases u with
  |true=>
   refine ae (λq4=>?_) (λq4=>?_)
   ·rw[decide_eq_true (show f.n.op=4 from q4),Bool.and_true,Bool.true_and]at o
    refine ae (λgi=>?_) (λgi=>?_)
    ·rw[decide_eq_true (show i=1 by omega)]at o
     have A:=A true;cases d:cT B g (cC cx f i) (kidD f i) (kidD h i) true Z with
     |error e=>
      rw[d]at A o;have o:(.error e:Except Int (Bool×Nat))=v:=o;subst o;refine af A ?_;refine vk ?_;refine vy (p:=e≠0) ?_ (rq hB _ _ _ _ _ _ _ d);exact eA9
     |ok q=>
      obtain⟨S,F⟩:=q;have C:=ku B g _ _ _ _ _ _ d;rw[d]at A o;refine af A ?_;refine vk ?_;refine vn ?_;cases S with
      |false=>
       have o:(.ok (false,F):Except Int (Bool×Nat))=v:=o;subst o;exact eA9
      |true=>
       refine vi ?_;exact au (i+1,F) ⟨OS,by simp only at C ⊢;omega,o⟩
    ·rw[decide_eq_false (show ¬ i=1 by omega)]at o
     have A:=A false;cases d:cT B g (cC cx f i) (kidD f i) (kidD h i) false Z with
     |error e=>
      rw[d]at A o;have o:(.error e:Except Int (Bool×Nat))=v:=o;subst o;refine af A ?_;refine vk ?_;refine vy (p:=e≠0) ?_ (rq hB _ _ _ _ _ _ _ d);exact eA9
     |ok q=>
      obtain⟨S,F⟩:=q;have C:=ku B g _ _ _ _ _ _ d;rw[d]at A o;refine af A ?_;refine vk ?_;refine vn ?_;cases S with
      |false=>
       have o:(.ok (false,F):Except Int (Bool×Nat))=v:=o;subst o;exact eA9
      |true=>
       refine vi ?_;exact au (i+1,F) ⟨OS,by simp only at C ⊢;omega,o⟩
   ·rw[decide_eq_false (show ¬ f.n.op=4 from q4),Bool.and_false,Bool.false_and]at o
    have A:=A false;cases d:cT B g (cC cx f i) (kidD f i) (kidD h i) false Z with
    |error e=>
     rw[d]at A o;have o:(.error e:Except Int (Bool×Nat))=v:=o;subst o;refine af A ?_;refine vk ?_;refine vy (p:=e≠0) ?_ (rq hB _ _ _ _ _ _ _ d);exact eA9
    |ok q=>
     obtain⟨S,F⟩:=q;have C:=ku B g _ _ _ _ _ _ d;rw[d]at A o;refine af A ?_;refine vk ?_;refine vn ?_;cases S with
     |false=>
      have o:(.ok (false,F):Except Int (Bool×Nat))=v:=o;subst o;exact eA9
     |true=>
      refine vi ?_;exact au (i+1,F) ⟨OS,by simp only at C ⊢;omega,o⟩
  |false=>
   rw[Bool.false_and,Bool.false_and]at o;have A:=A false;cases d:cT B g (cC cx f i) (kidD f i) (kidD h i) false Z with
   |error e=>
    rw[d]at A o;have o:(.error e:Except Int (Bool×Nat))=v:=o;subst o;refine af A ?_;refine vk ?_;refine vy (p:=e≠0) ?_ (rq hB _ _ _ _ _ _ _ d);exact eA9
   |ok q=>
    obtain⟨S,F⟩:=q;have C:=ku B g _ _ _ _ _ _ d;rw[d]at A o;refine af A ?_;refine vk ?_;refine vn ?_;cases S with
    |false=>
     have o:(.ok (false,F):Except Int (Bool×Nat))=v:=o;subst o;exact eA9
    |true=>
     refine vi ?_;exact au (i+1,F) ⟨OS,by simp only at C ⊢;omega,o⟩
 ·simp only at N
  have d1:(kidsT f).drop i=[]:=JY Oo;rw[d1]at o;have o:cX (cT B g) cx l k Z=v:=by
   rw[<- o];simp[kidsL,fP]
  refine az τok (σ:=Nat×Nat) [(1,_),(6,_),(17,_),(19,_)] [(6,_)] (λq=>[(31,vI q.1),(4,vI q.2)]) (λ_=>[]) (λq=>q.1<=l.length/\q.2<=W/\cX (cT B g) cx (l.drop q.1) (k.drop q.1) q.2=v) (λq=>l.length-q.1) (0,Z) ⟨KV _,r2,o⟩ ?_
  clear r1 r2 o N d1
  rintro⟨j,n2⟩ ⟨r1,r2,o⟩;simp only at r1 r2 o;refine aj τok<|ae (λN=>?_) (λN=>?_)
  ·simp only at N
   obtain⟨V,E,a3⟩:=ay (l:=l) (k:=j);obtain⟨b1,H,a4⟩:=ay (l:=k) (k:=j);rw[a3,a4]at o;simp only[cX]at o;have A:=ih cx V b1 false n2 hcx hcl (la V (JQ E)) (lb b1 (JQ H)) Oo Oo;refine vm (p:=rP) j (x:=row V) (by rw[JX,E];rfl) ?_;refine vm (p:=rP) j (x:=row b1) (by rw[JX,H];rfl) ?_;cases d:cT B g cx V b1 false n2 with
   |error e=>
    rw[d]at A o;have o:(.error e:Except Int (Bool×Nat))=v:=o;subst o;refine af A ?_;refine vk ?_;refine vy (p:=e≠0) ?_ (rq hB _ _ _ _ _ _ _ d);exact eA9
   |ok q=>
    obtain⟨S,F⟩:=q;have C:=ku B g _ _ _ _ _ _ d;rw[d]at A o;refine af A ?_;refine vk ?_;refine vn ?_;cases S with
    |false=>
     have o:(.ok (false,F):Except Int (Bool×Nat))=v:=o;subst o;exact eA9
    |true=>
     have o:cX (cT B g) cx (l.drop (j+1)) (k.drop (j+1)) F=v:=o;refine vi ?_;exact au (j+1,F) ⟨OS,by simp only at C ⊢;omega,o⟩
  ·simp only at N
   rw[JY Oo]at o;have o:(.ok (true,n2):Except Int (Bool×Nat))=v:=by rw[<- o];simp[cX]
   subst o;exact eA9
end
abbrev RS(α:Type):=Except (Int×Nat) (α×Nat)
def dP{α:Type}(r:RS α):Except Int (α×Nat):=match r with
 | .ok q=>.ok q
 | .error e=>.error e.1
def bA{α β:Type}(m:RS α)(k:α ->Nat ->RS β):RS β:=match m with
 | .error e=>.error e
 | .ok q=>k q.1 q.2
def dy{α:Type}(m:Except Int α)(n:Nat):RS α:=match m with
 | .error e=>.error (e,n)
 | .ok x=>.ok (x,n)
theorem iK{α β:Type}(a:α)(n:Nat)(k:α ->Nat ->RS β):bA (.ok (a,n)) k=k a n:=rfl
theorem gq{α β:Type}(e:Int×Nat)(k:α ->Nat ->RS β):bA (.error e) k= .error e:=rfl
theorem y5{α:Type}(x:α)(n:Nat):dy (.ok x) n= .ok (x,n):=rfl
theorem y6{α:Type}(e:Int)(n:Nat):dy (.error e:Except Int α) n= .error (e,n):=rfl
def y7{α:Type}(m:Except Int (α×Nat)):RS α:=match m with
 | .error e=>.error (e,0)
 | .ok q=>.ok q
def fV(B:aq)(cx:Ctx)(t:Tr)(n:Nat):RS Tr:=if 256<cx.length then .error (5,n)else y7 (dC B cx t (n:Int))
def ju(B:aq)(cx:Ctx)(x y:Tr)(u:Bool)(n:Nat):RS Bool:=if 256<cx.length then .error (5,n)else y7 (kw B cx x y (n:Int) u)
abbrev RcS:=Ctx ->Tr ->Nat ->RS Tr
def fF(B:aq)(rc:RcS)(cx:Ctx)(t:Tr)(n:Nat):RS (Int×List Atom):=
 bA (rc cx t n) λty n=>bA (fV B cx ty n) λz n=>if (headT z).n.op≠2 \/0<(argsT z).length then .error (11,n)else .ok (((headT z).n.a,bK (headT z)),n)
def gO(B:aq)(rc:RcS)(cx:Ctx)(t ty:Tr)(n:Nat):RS Unit:=
 bA (rc cx t n) λz n=>bA (ju B cx z ty true n) λb n=>if b=true then .ok ((),n)else .error (13,n)
def mZ(B:aq)(a:Int)(ps:List Tr)(ni:Nat):Nat ->Nat ->Ctx ->Tr ->Nat ->RS Int
 |0,_,cx,m,n=>bA (fV B cx m n) λf n=>if (headT f).n.op≠2 \/0<(argsT f).length then .error (16,n)else .ok ((headT f).n.a,n)
 |k+1,i,cx,m,n=>bA (fV B cx m n) λf n=>if (headT f).n.op≠4 \/0<(argsT f).length then .error (16,n)else
   bA (dy (iZ B a ps i ni) n) λw n=>bA (ju B cx (kidD (headT f) 0) w false n) λb n=>if b=true then mZ B a ps ni k (i+1) (cx++[(kidD (headT f) 0,none)]) (kidD (headT f) 1) n else .error (16,n)
def y8(B:aq)(cx:Ctx)(a:Int)(ps:List Tr)(m:Tr)(n:Nat):RS Int:=mZ B a ps (ji B a).length ((ji B a).length+1) 0 cx m n
def nY(B:aq)(rc:RcS):Ctx ->List Tr ->Nat ->RS Bool
 |_,[],n=>.ok (true,n)
 |cx,a::r,n=>bA (fF B rc cx a n) λq n=>if q.1≠0 then .ok (false,n)else nY B rc (cx++[(a,none)]) r n
def lV(B:aq)(rc:RcS)(a:Int)(n:Nat):RS Bool:=
 if (aP B a).ctors.length=0 then .ok (true,n)else if 1<(aP B a).ctors.length then .ok (false,n)else nY B rc (cJ (gH B a)) (jj B a 0) n
def m8(B:aq)(rc:RcS)(cx:Ctx)(a:Int)(ps:List Tr)(mo:Tr):Nat ->List Tr ->Nat ->RS Unit
 |_,[],n=>.ok ((),n)
 |k,b::r,n=>bA (dy (iE B a (k:Int) ps mo) n) λty n=>bA (gO B rc cx b ty n) λ_ n=>m8 B rc cx a ps mo (k+1) r n
def smatch(B:aq)(rc:RcS)(cx:Ctx)(nd:Nd)(ks:List Tr)(n:Nat):RS Tr:=
 let np:=(gH B nd.a).length
 let mo:=ks.getD 0 (varX 0)
 let sc:=ks.getD 1 (varX 0)
 bA (rc cx sc n) λty n=>bA (fV B cx ty n) λz n=>
  if (headT z).n.op≠9 \/(headT z).n.a≠nd.a \/(argsT z).length≠np+(ji B nd.a).length then .error (14,n)
  else if (ks.drop 2).length≠(aP B nd.a).ctors.length then .error (15,n)
  else bA (rc cx mo n) λmt n=>bA (y8 B cx nd.a ((argsT z).take np) mt n) λkind n=>
   bA (if (tr (aP B nd.a).sort).n.a=0/\kind=1 then lV B rc nd.a n else .ok (true,n)) λs n=>if s=false then .error (17,n)else
    bA (m8 B rc cx nd.a ((argsT z).take np) mo 0 (ks.drop 2) n) λ_ n=>dy (aK mo ((argsT z).drop np++[sc])) n
def pm(B:aq)(rc:RcS)(cx:Ctx)(t:Tr):Nat ->Nat ->Nat ->RS Unit
 |0,_,n=>.ok ((),n)
 |k+1,i,n=>bA (fF B rc cx (kidD t (2*i)) n) λ_ n=>pm B rc cx t k (i+1) n
def nZ(B:aq)(rc:RcS)(cx:Ctx)(t:Tr)(nb:Nat):Nat ->Nat ->Nat ->RS Unit
 |0,_,n=>.ok ((),n)
 |k+1,i,n=>bA (gO B rc cx (kidD t (2*i+1)) (aH (kidD t (2*i)) nb 0) n) λ_ n=>nZ B rc cx t nb k (i+1) n
def rr(B:aq)(rc:RcS)(cx:Ctx)(t:Tr)(n:Nat):RS Tr:=
 bA (pm B rc cx t t.n.b.toNat 0 n) λ_ n=>if fD B t≠0 then .error (fD B t,n)else
  bA (nZ B rc (cx++bi t) t t.n.b.toNat t.n.b.toNat 0 n) λ_ n=>.ok (kidD t (2*t.n.a.toNat),n)
def rt(t:Tr)(n:Nat):RS Tr:=if di (bK t) 1≠0 then .error (di (bK t) 1,n)else .ok (dV 1 (fc (bK t) 1),n)
def ru(B:aq)(rc:RcS)(cx:Ctx)(t:Tr)(n:Nat):RS Tr:=
 bA (fF B rc cx (kidD t 0) n) λp n=>bA (fF B rc (cx++[(kidD t 0,none)]) (kidD t 1) n) λq n=>
  if cB p.2 q.2≠0 then .error (cB p.2 q.2,n)else .ok (dV q.1 (dh p.2 q.2),n)
def rx(B:aq)(rc:RcS)(cx:Ctx)(t:Tr)(n:Nat):RS Tr:=
 bA (fF B rc cx (kidD t 0) n) λ_ n=>bA (rc (cx++[(kidD t 0,none)]) (kidD t 1) n) λz n=>dy (be [kidD t 0] z) n
def ry(B:aq)(rc:RcS)(cx:Ctx)(t:Tr)(n:Nat):RS Tr:=
 bA (rc cx (kidD t 0) n) λty n=>bA (fV B cx ty n) λz n=>if (headT z).n.op≠4 \/0<(argsT z).length then .error (12,n)else
  bA (gO B rc cx (kidD t 1) (kidD (headT z) 0) n) λ_ n=>dy (bk (kidD (headT z) 1) (kidD t 1) 0) n
def rz(B:aq)(rc:RcS)(cx:Ctx)(t:Tr)(n:Nat):RS Tr:=
 bA (fF B rc cx (kidD t 0) n) λ_ n=>bA (gO B rc cx (kidD t 1) (kidD t 0) n) λ_ n=>
  bA (rc (cx++[(kidD t 0,some (kidD t 1))]) (kidD t 2) n) λz n=>dy (bk z (kidD t 1) 0) n
def po(B:aq)(rc:RcS)(cx:Ctx)(t:Tr)(n:Nat):RS Tr:=
 if t.n.op=1 then .ok (aH (eZ cx t.n.a).1 (t.n.a+1) 0,n)
 else if t.n.op=2 then rt t n
 else if t.n.op=8 then .ok (tr (aP B t.n.a).type,n)
 else if t.n.op=9 then dy (fE B t.n.a) n
 else if t.n.op=10 then dy (gh B t.n.a t.n.b) n
 else if t.n.op=4 then ru B rc cx t n
 else if t.n.op=5 then rx B rc cx t n
 else if t.n.op=6 then ry B rc cx t n
 else if t.n.op=7 then rz B rc cx t n
 else if t.n.op=11 then smatch B rc cx t.n (kidsT t) n
 else rr B rc cx t n
def rA(B:aq):Nat ->RcS
 |0,_,_,n=>.error (10,n)
 |g+1,cx,t,n=>po B (rA B g) cx t n
section
variable{B:aq}{cx:Ctx}{rs:RcS}{rc:RcJ}
theorem kQ{α β:Type}(m:RS α)(k:α ->Nat ->RS β):dP (bA m k)=bg (dP m) λa n=>dP (k a n):=by
 cases m<;>rfl
theorem tX{α:Type}(m:Except Int α)(n:Nat):dP (dy m n)=cY m n:=by
 cases m<;>rfl
theorem EY{α:Type}(m:Except Int (α×Nat)):dP (y7 m)=m:=by
 cases m<;>rfl
theorem ik(t:Tr)(n:Nat):dP (fV B cx t n)=dH B cx t n:=by
 unfold fV dH;split
 ·rfl
 ·exact EY _
theorem n8(x y:Tr)(u:Bool)(n:Nat):dP (ju B cx x y u n)=fR B cx x y u n:=by
 unfold ju fR;split
 ·rfl
 ·exact EY _
theorem m9{α:Type}{p:Prop} [Decidable p](a b:RS α):dP (if p then a else b)=if p then dP a else dP b:=by
 split<;>rfl
theorem na{α:Type}(q:α×Nat):dP (.ok q)= .ok q:=rfl
theorem pp{α:Type}(e:Int×Nat):dP (.error e:RS α)= .error e.1:=rfl
def Fg(rs:RcS)(rc:RcJ):Prop:=∀cx t n,dP (rs cx t n)=rc cx t n
section
variable(h:Fg rs rc)
include h
theorem io(t:Tr)(n:Nat):dP (fF B rs cx t n)=dd B rc cx t n:=by
 unfold fF dd;simp only[kQ,ik,m9,na,pp,h cx]
theorem kR(t ty:Tr)(n:Nat):dP (gO B rs cx t ty n)=eQ B rc cx t ty n:=by
 unfold gO eQ;simp only[kQ,n8,m9,na,pp,h cx]
theorem uQ':∀(l:List Tr) (cx:Ctx) (n:Nat),dP (nY B rs cx l n)=lF B rc cx l n
 |[],cx,n=>rfl
 |a::r,cx,n=>by
  simp only[nY,lF,kQ,io h,m9,na,uQ' r]
theorem y9(a:Int)(n:Nat):dP (lV B rs a n)=jk B rc a n:=by
 simp only[lV,jk,m9,na,uQ' h]
theorem EZ{a:Int}{c:List Tr}{mo:Tr}:∀(l:List Tr) (k n:Nat),dP (m8 B rs cx a c mo k l n)=kD B rc cx a c mo k l n
 |[],k,n=>rfl
 |b::r,k,n=>by
  simp only[m8,kD,kQ,tX,kR h,EZ r]
theorem E0{t:Tr}:∀(k i n:Nat),dP (pm B rs cx t k i n)=mH B rc cx t k i n
 |0,i,n=>rfl
 |k+1,i,n=>by
  simp only[pm,mH,kQ,io h,E0 k]
theorem E1{t:Tr}{nb:Nat}:∀(k i n:Nat),dP (nZ B rs cx t nb k i n)=lG B rc cx t nb k i n
 |0,i,n=>rfl
 |k+1,i,n=>by
  simp only[nZ,lG,kQ,kR h,E1 k]
end
theorem E2{a:Int}{b:List Tr}{c:Nat}:∀(k i:Nat) (cx:Ctx) (m:Tr) (n:Nat),dP (mZ B a b c k i cx m n)=ie B a b c k i cx m n
 |0,i,cx,m,n=>by
  simp only[mZ,ie,kQ,ik,m9,na,pp]
 |k+1,i,cx,m,n=>by
  simp only[mZ,ie,kQ,ik,m9,na,pp,tX,n8,E2 k]
theorem LY(h:Fg rs rc)(nd:Nd)(ks:List Tr)(n:Nat):dP (smatch B rs cx nd ks n)=jT B rc cx nd ks n:=by
 simp only[smatch,jT,y8,oV,kQ,ik,m9,na,pp,tX,E2,y9 h,EZ h,h cx]
theorem LZ(h:Fg rs rc):Fg (po B rs) (ig B rc):=λcx t n=>by
 simp only[po,ig,rt,mI,ru,mJ,rx,mL,ry,lH,rz,mM,rr,kE,kQ,ik,m9,na,pp,tX,io h,kR h,LY h,E0 h,E1 h,h _]
theorem hA':∀g:Nat,Fg (rA B g) (dD B g)
 |0=>λ_ _ _=>rfl
 |g+1=>LZ (hA' g)
theorem fW{α:Type}{r:RS α}{j:Except Int (α×Nat)}(h:dP r=j){q:α×Nat}(e:r= .ok q):j= .ok q:=by rw[<- h,e];rfl
theorem fj{α:Type}{r:RS α}{j:Except Int (α×Nat)}(h:dP r=j){x:Int×Nat}(e:r= .error x):j= .error x.1:=by rw[<- h,e];rfl
end
section
variable{B:aq}(hS:dc B)(hB:GoodB B)
theorem L0(cx:List (List Nd×List Nd))(x y:List Nd)(u:Bool):VC prog 119 [aW B,aG cx,ah x,ah y,pI 0,.bool u] (pj (.error 10)):=by
 refine vf 262 [.tmp 12,.tmp 13,.tmp 14] τok func119 ?_;refine vy (p:=(0:Int)=0) ?_ rfl;exact eA9
include hS hB
theorem cmpV:∀g,ro B g
 |0=>λcx x y u n _ _ _ _ h _=>by
  obtain rfl:n=0:=Oo
  exact L0 _ _ _ u
 |g+1=>λcx x y u n a b c d e f=>LX hS hB (cmpV g) a b c d e f
theorem za{cx:Ctx}{x y:Tr}{u:Bool}{n:Nat}(hcx:CxOk B cx)(hcl:cx.length<=260)(a:Ft (QB B) (cx.length:Int) x)(b:Ft (QB B) (cx.length:Int) y)(c:n<=100000):VC prog 119 [aW B,aG (cx.map aA),ah (row x),ah (row y),pI n,.bool u] (pj (kw B cx x y (n:Int) u)):=by
 have e:bE (n:Int)=n:=by unfold bE;omega
 unfold kw;rw[e];exact cmpV hS hB GC cx x y u n hcx hcl a b (by have:=Da';omega) c
end
def cH(B:aq)(F E:Int):List PV:=[.int .i64 B.vars,.sl (B.orders.map orP),.sl (B.ents.map aQ),.int .i64 B.nat,.sl (B.prims.map prP),pI F,pI E]
def gr{α:Type}(B:aq)(r:RS α):List PV:=match r with
 | .ok q=>cH B q.2 0
 | .error e=>cH B e.2 e.1
def pq(r:RS Tr):PV:=match r with
 | .ok q=>ah (row q.1)
 | .error _=>.sl []
def L1(r:RS (Int×List Atom)):PV:=match r with
 | .ok q=>.tup [pI q.1.1,cr q.1.2]
 | .error _=>.tup [pI 0,.sl []]
def rB(r:RS Bool):PV:=match r with
 | .ok q=>.bool q.1
 | .error _=>.bool false
section
variable{B:aq}
theorem ip(F E e:Int):VP prog 73 93 (cH B F E) (cH B F (if E=0 then e else E)) [pI e] (.tup []):=by
 refine aX (r:=.ok (_,_)) 13 [] τok func73 ?_;refine aj τok<|ae (λh=>?_) (λh=>?_)
 ·rw[if_pos h]
  exact eP9
 ·rw[if_neg h]
  exact eP9
theorem gu(F:Int)(t:List (List PV)):VP prog 51 93 (cH B F 0) (cH B F 0) [.sl t,pI 0] (.sl t):=by
 refine aX (r:=.ok (_,_)) 16 [.tmp 6] τok func51 ?_;refine aj τok<|ax (ip F 0 0) ?_;refine vn (p:=(0:Int)≠0) ?_ OO;exact eP9
theorem pr(F:Int){E e:Int}(h:E≠0 \/e≠0)(t:PV):VP prog 51 93 (cH B F E) (cH B F (if E=0 then e else E)) [t,pI e] (.sl []):=by
 refine aX (r:=.ok (_,_)) 16 [.tmp 6] τok func51 ?_;refine aj τok<|ax (ip F E e) ?_;refine vy (p:=(if E=0 then e else E)≠0) ?_ (by split<;>omega);exact eP9
theorem kS(F:Int){e:Int}(h:e≠0)(t:PV):VP prog 51 93 (cH B F 0) (cH B F e) [t,pI e] (.sl []):=by
 have:=pr (B:=B) F (E:=0) (.inr h) t
 rwa [if_pos rfl]at this
theorem L2{c:List (List Nd×List Nd)}(x:List Nd×List Nd)(hc:c.length<=1000):VC prog 56 [aG c,.agg (bdP x)] (aG (c++[x])):=by
 have b:=ak bdP c;refine vf 11 [.tmp 4] τok func56 ?_;refine va (p:=bdP) ?_ (λy _=>⟨rfl,λq a=>?_⟩)
 ·refine aV ?_
  exact vk<|⟨_,_,rfl,rfl,by unfold aG;rw[List.map_append];rfl⟩
 ·simp only[bdP,JJ,JZ,or_false]at a
  rcases a with rfl|rfl<;>rfl
theorem leftV(F E:Int):VP prog 30 93 (cH B F E) (cH B F E) [] (if E=0 then .tup [pI F,pI 0]else .tup [pI 0,pI E]):=by
 refine aX (r:=.ok (_,_)) 17 [.tmp 2,.tmp 3] τok func30 ?_;refine aj τok<|ae (λh=>?_) (λh=>?_)
 ·rw[if_neg h]
  exact kP9
 ·rw[if_pos (Decidable.of_not_not h)]
  exact eP9
theorem rC(F:Int){E:Int}(a:E≠0)(c t:List (List PV)):VP prog 59 93 (cH B F E) (cH B F E) [.sl c,.sl t] (.sl []):=by
 refine aX (r:=.ok (_,_)) 51 [.tmp 6] τok func59 ?_;refine aj τok<|vn (p:=E=0) ?_ a;refine vy (p:=E≠0) ?_ a;exact eP9
theorem zb(F:Int){E:Int}(a:E≠0)(c x y:List (List PV))(u:Bool):VP prog 72 93 (cH B F E) (cH B F E) [.sl c,.sl x,.sl y,.bool u] (.bool false):=by
 refine aX (r:=.ok (_,_)) 64 [.tmp 10] τok func72 ?_;refine aj τok<|vn (p:=E=0) ?_ a;refine vy (p:=E≠0) ?_ a;exact eP9
theorem rD(F:Int){E:Int}(a:E≠0)(c t:List (List PV)):VP prog 29 93 (cH B F E) (cH B F E) [.sl c,.sl t] (.sl []):=by
 refine aX (r:=.ok (_,_)) 379 [.tmp 6] τok func29 ?_;refine aj τok<|vy (p:=E≠0) ?_ a;exact eP9
theorem E3(F:Int){E:Int}(a:E≠0)(c t:List (List PV)):VP prog 36 93 (cH B F E) (cH B F E) [.sl c,.sl t] (.tup [pI 0,.sl []]):=by
 refine aX (r:=.ok (_,_)) 42 [.tmp 6,.tmp 7] τok func36 ?_;refine aj τok<|ax (rD F a c t) ?_;refine ax (rC F a c _) ?_;refine vn (p:=E=0) ?_ a;refine vy (p:=E≠0) ?_ a;exact eP9
theorem L3(F:Int){E:Int}(a:E≠0)(c t ty:List (List PV)):VP prog 35 93 (cH B F E) (cH B F E) [.sl c,.sl t,.sl ty] (.tup []):=by
 refine aX (r:=.ok (_,_)) 21 [] τok func35 ?_;refine aj τok<|ax (rD F a c t) ?_;refine ax (zb F a c _ ty true) ?_;have:=ip (B:=B) F E 13;rw[if_neg a]at this;refine ax this ?_;exact eP9
end
section
variable{B:aq}{cx:Ctx}(hS:dc B)(hB:GoodB B)(hcx:CxOk B cx)(hcl:cx.length<=260)
include hS hB hcx hcl
theorem L4{x:Tr}(a:Ft (QB B) (cx.length:Int) x){n:Nat}(b:n<=100000):cM B cx 4096 n x=dC B cx x (n:Int):=by
 rw[tR hB hcx Oo a]
 congr 1
 unfold bE;omega
theorem rE{x:Tr}(c:Ft (QB B) (cx.length:Int) x){n:Nat}(d:n<=100000):VP prog 59 93 (cH B n 0) (gr B (fV B cx x n)) [aG (cx.map aA),ah (row x)] (pq (fV B cx x n)):=by
 have eC:=ak bdP (cx.map aA);have f:=ak aA cx;have b:=yV hB hcx Oo c d;rw[L4 hS hB hcx hcl c d]at b;generalize a:fV B cx x n=i;unfold fV at a;refine aX (r:=.ok (_,_)) 51 [.tmp 6] τok func59 ?_;refine aj τok<|vy (p:=(0:Int)=0) ?_ rfl;refine ae (λh=>?_) (λh=>?_)
 ·rw[if_pos Oo]at a
  subst a;refine vy (p:=(5:Int)≠0) ?_ OO;exact eP9
 rw[if_neg Oo]at a;refine vn (p:=(0:Int)≠0) ?_ OO;cases hr:dC B cx x (n:Int)with
 |error e=>
  have j:=qE hr;rw[hr]at a b;subst a;refine af (r:=rm (.error e)) b ?_;refine vk ?_;refine ax (pr 0 (.inr j) _) ?_;rw[if_pos rfl];exact eP9
 |ok q=>
  rw[hr]at a b;subst a;refine af (r:=rm (.ok q)) b ?_;refine vk ?_;refine ax (gu q.2 _) ?_;exact eP9
theorem zd{x y:Tr}(d:Ft (QB B) (cx.length:Int) x)(f:Ft (QB B) (cx.length:Int) y){n:Nat}(i:n<=100000)(u:Bool):VP prog 72 93 (cH B n 0) (gr B (ju B cx x y u n)) [aG (cx.map aA),ah (row x),ah (row y),.bool u] (rB (ju B cx x y u n)):=by
 have eC:=ak bdP (cx.map aA);have j:=ak aA cx;have c:=za hS hB hcx hcl d f (u:=u) i;generalize a:ju B cx x y u n=k;unfold ju at a;refine aX (r:=.ok (_,_)) 64 [.tmp 10] τok func72 ?_;refine aj τok<|vy (p:=(0:Int)=0) ?_ rfl;refine ae (λh=>?_) (λh=>?_)
 ·rw[if_pos Oo]at a
  subst a;refine vy (p:=(5:Int)≠0) ?_ OO;exact eP9
 rw[if_neg Oo]at a;refine vn (p:=(0:Int)≠0) ?_ OO;cases hr:kw B cx x y (n:Int) u with
 |error e=>
  rw[hr]at a c;subst a;refine af (r:=pj (.error e)) c ?_;refine vk ?_;refine ax (ip 0 0 e) ?_;rw[if_pos rfl];exact eP9
 |ok q=>
  obtain⟨b,m⟩:=q;rw[hr]at a c;subst a;refine af (r:=pj (.ok (b,m))) c ?_;refine vk ?_;refine ax (ip m 0 0) ?_;rw[if_pos rfl];cases b with
  |true=>
   refine vy (p:=(0:Int)=0) ?_ rfl;exact eP9
  |false=>exact eP9
end
theorem L5(kind:Int)(l:List Atom):row (dV kind l)=⟨2,kind,(l.length:Int)⟩::l.map λa=>⟨3,a.var,a.add⟩:=by
 have:∀l:List Atom,rows (l.map λa=>Tr.mk ⟨3,a.var,a.add⟩ [])=l.map λa=>(⟨3,a.var,a.add⟩:Nd):=by
  intro l
  induction l with
  |nil=>rfl
  |cons a l b=>simp[rows,row,b]
 simp[dV,row,this]
theorem E4(kind:Int){l:List Atom}(hl:l.length<=1000):VC prog 55 [pI kind,cr l] (ah (row (dV kind l))):=by
 have d:=ak atP l;generalize b:row (dV kind l)=f;rw[L5]at b;refine vf 33 [.tmp 4] τok func55 ?_;refine az τok (σ:=Nat) [(1,_)] [] (λi=>[(5,.c (.row 1000)),(6,vI i)]) (λi=>[(1000,.rw 42 3 ([pI 2,pI kind,pI ((l.map atP).length:Int)]::(l.take i).map λa=>[pI 3,pI a.var,pI a.add]))]) (λi=>i<=l.length) (λi=>l.length-i) 0 (KV _) ?_ (sw 1000 11);intro i j;refine aj τok<|ae (λg=>?_) (λg=>?_)
 ·have g:(i:Int)<l.length:=by simpa[d]using g
  obtain⟨a,e,_⟩:=ay (l:=l) (k:=i);refine vm (p:=atP) i e ?_;refine vm (p:=atP) i e ?_;refine aV ?_ (hb:=OK);refine vk ?_;refine vi ?_;exact au (i+1) (by show i+1<=_;omega) (sw 1000 31) (y':=⟨congrArg (λl=>some (SE.rw _ _ l)) (by
   rw[dA e];simp[cQ];exact⟨rfl,rfl,rfl⟩),trivial⟩)
 ·have:i=l.length:=by simp[d]at g;omega
  subst this;exact⟨_,_,rfl,rfl,by
   rw[List.take_length,<- b,d];simp[ah,gz',ndP]⟩
section
variable{B:aq}{cx:Ctx}{rs:RcS}{rc:RcJ}
theorem jv(h:Fg rs rc){t:Tr}{n:Nat}{q:Tr×Nat}(e:rs cx t n= .ok q):rc cx t n= .ok q:=fW (h cx t n) e
theorem nc(h:Fg rs rc){t:Tr}{n:Nat}{x:Int×Nat}(e:rs cx t n= .error x):rc cx t n= .error x.1:=fj (h cx t n) e
def dQ(B:aq)(rs:RcS)(cx:Ctx)(t:Tr)(n:Nat):Prop:=VP prog 29 93 (cH B n 0) (gr B (rs cx t n)) [aG (cx.map aA),ah (row t)] (pq (rs cx t n))
theorem nf{x:Tr}(c:Wf x){o:Int}(i:o≠6):((headT x).n.op≠o \/0<(argsT x).length)↔x.n.op≠o:=by
 by_cases b:x.n.op=6
 ·have:0<(argsT x).length:=by
   obtain⟨n,j⟩:=x;obtain⟨f,a,rfl,_⟩:=ms c.ok b;rw[ke (n:=n) b];simp
  exact⟨λ_=>Oo,λ_=>.inr this⟩
 ·obtain⟨d,e⟩:=gn b
  rw[d,e];simp
variable(hS:dc B)(hB:GoodB B)(hfg:Fg rs rc)(hr:cv B rc)(hcx:CxOk B cx)(hcl:cx.length<=260)
include hS hB hfg hr hcx hcl
theorem pu{t:Tr}(ht:Ft (QB B) (cx.length:Int) t){n:Nat}(v:n<=100000)(i:dQ B rs cx t n):VP prog 36 93 (cH B n 0) (gr B (fF B rs cx t n)) [aG (cx.map aA),ah (row t)] (L1 (fF B rs cx t n)):=by
 generalize b:fF B rs cx t n=c;unfold fF at b;unfold dQ at i;refine aX (r:=.ok (_,_)) 42 [.tmp 6,.tmp 7] τok func36 ?_;refine aj τok ?_;cases j:rs cx t n with
 |error e=>
  have d:=hr.er _ _ _ _ (nc hfg j);rw[j]at b i;have b:(.error e:RS (Int×List Atom))=c:=b;subst b;refine ax i ?_;refine ax (rC e.2 d _ _) ?_;refine vn (p:=e.1=0) ?_ d;refine vy (p:=e.1≠0) ?_ d;exact eP9
 |ok q=>
 obtain⟨y,m⟩:=q;have l:=hr.ft _ _ _ _ hcx hcl ht (jv hfg j);have u:=hr.le _ _ _ _ (jv hfg j);simp only at l u;rw[j]at b i;have hW:=rE hS hB hcx hcl l (n:=m) Oo;have b:bA (fV B cx y m) (λz n=>if (headT z).n.op≠2 \/0<(argsT z).length then .error (11,n)else .ok (((headT z).n.a,bK (headT z)),n))=c:=b;refine ax i ?_;cases k:fV B cx y m with
 |error e=>
  have d:=kG (fj (ik y m) k);rw[k]at b hW;have b:(.error e:RS (Int×List Atom))=c:=b;subst b;refine ax hW ?_;refine vn (p:=e.1=0) ?_ d;refine vy (p:=e.1≠0) ?_ d;exact eP9
 |ok q=>
 obtain⟨z,s⟩:=q;obtain⟨_,o,f⟩:=iG hB hcx l (fW (ik y m) k);simp only at f o;rw[k]at b hW;have b:(if (headT z).n.op≠2 \/0<(argsT z).length then .error (11,s)else .ok (((headT z).n.a,bK (headT z)),s))=c:=b;refine ax hW ?_;refine vy (p:=(0:Int)=0) ?_ rfl;refine vm (p:=ndP) 0 (aJ (aB f)) ?_;refine ae (λg=>?_) (λg=>?_)
 ·rw[if_pos ((nf (aB f) OO).2 g)]at b
  subst b;refine vy (p:=(11:Int)≠0) ?_ OO;exact eP9
 ·rw[if_neg (λh=>g ((nf (aB f) OO).1 h))]at b
  have g:z.n.op=2:=Decidable.of_not_not g;rw[(gn (x:=z) Oo).1]at b;subst b;refine vn (p:=(0:Int)≠0) ?_ OO;refine vm (p:=ndP) 0 (aJ (aB f)) ?_;refine af (tT (aB f) g) ?_;exact kP9
theorem tY{t ty:Tr}(ht:Ft (QB B) (cx.length:Int) t)(k:Ft (QB B) (cx.length:Int) ty){n:Nat}(s:n<=100000)(d:dQ B rs cx t n):VP prog 35 93 (cH B n 0) (gr B (gO B rs cx t ty n)) [aG (cx.map aA),ah (row t),ah (row ty)] (.tup []):=by
 generalize a:gO B rs cx t ty n=c;unfold gO at a;unfold dQ at d;refine aX (r:=.ok (_,_)) 21 [] τok func35 ?_;refine aj τok ?_;cases f:rs cx t n with
 |error e=>
  have j:=hr.er _ _ _ _ (nc hfg f);rw[f]at a d;have a:(.error e:RS Unit)=c:=a;subst a;refine ax d ?_;refine ax (zb e.2 j _ _ _ true) ?_;have:=ip (B:=B) e.2 e.1 13;rw[if_neg j]at this;refine ax this ?_;exact eP9
 |ok q=>
 obtain⟨y,m⟩:=q;have o:=hr.ft _ _ _ _ hcx hcl ht (jv hfg f);have p:=hr.le _ _ _ _ (jv hfg f);simp only at o p;rw[f]at a d;have hW:=zd hS hB hcx hcl o k (n:=m) Oo true;have a:bA (ju B cx y ty true m) (λb n=>if b=true then .ok ((),n)else .error (13,n))=c:=a;refine ax d ?_;cases l:ju B cx y ty true m with
 |error e=>
  have j:=qG (fj (n8 y ty true m) l);rw[l]at a hW;have a:(.error e:RS Unit)=c:=a;subst a;refine ax hW ?_;have:=ip (B:=B) e.2 e.1 13;rw[if_neg j]at this;refine ax this ?_;exact eP9
 |ok q=>
  obtain⟨b,i⟩:=q;rw[l]at a hW;have a:(if b=true then .ok ((),i)else .error (13,i))=c:=a;refine ax hW ?_;cases b with
  |true=>
   have a:(.ok ((),i):RS Unit)=c:=a;subst a;exact eP9
  |false=>
   have a:(.error (13,i):RS Unit)=c:=a;subst a;have:=ip (B:=B) i 0 13;rw[if_pos rfl]at this;refine ax this ?_;exact eP9
end
end Go.Proofs.YtjnjbghlemiklaaGreat
