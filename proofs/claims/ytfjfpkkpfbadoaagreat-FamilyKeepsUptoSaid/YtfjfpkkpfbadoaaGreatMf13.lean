import Derived.Test.YtfjfpkkpfbadoaaGreatMf12
set_option linter.all false
set_option maxRecDepth 100000
set_option maxHeartbeats 4000000
open Go.Proofs Go.Proofs.Tryz Cd Go.Wx Lv Tm
namespace Go.Q
section
variable{B:ak}{cx:Ctx}{t:Tr}{n g:Nat}{rc:RcJ}
variable(hI:BoI B)(hB:GoodB B)
include hI hB
theorem Ob(hcx:CxOk B cx)(hcl:cx.length<=256){n:Nat}{a:Int}(ha:bF B B.ents.length a=true){z:List Tr}(I:∀y∈z,Ft (QB B) (cx.length:Int) y)(hql:z.length=(gh B a).length){m:Tr}(hm:Ft (QB B) (cx.length:Int) m):
  ju prog 176 180 (dW B n) [aO (cx.map aE),pI a,bG (z.map row),ah (row m)] (dE B pI (qq B cx a z m n)):=by
 obtain⟨i0,x,s,ps,qi,ei,_,hi,b1,hF⟩:=hB.fam ha (KJ _);obtain⟨e1,e2,e3⟩:=hF.ps_eq hi;rw[<- ei]at e1 e2 e3;have b0:=kQ hB ha;generalize D:qq B cx a z m n=A;unfold qq at D;rw[e2]at D;rw[e1]at hql;have b2:=hF.lp;have b3:=hF.li;have l4:=aq (λt=>[ah t]) x.indices;have l5:=KG List.length hF.indices;rw[KF]at l5;have l6:=aq (λt=>[ah t]) (z.map row);have l7:=aq row z;obtain⟨np,b4⟩:∃k,ps.length=k:=⟨_,rfl⟩
 obtain⟨u,a5⟩:∃k,qi.length=k:=⟨_,rfl⟩
 rw[a5]at D;refine aX (r:=dE B pI A) 148 [.tmp 10] τok func176 ?_;refine aj<|cS i0 hi ?_ (hi:=ei);refine aB τok (σ:=Nat×Ctx×Tr×Nat) [(0,_),(2,_),(3,_),(11,_),(12,_)] [(11,_)] (λq=>[(1,vP (aO (q.2.1.map aE))),(4,vP (ah (row q.2.2.1))),(13,vI q.1)]) (λq=>[(0,.st 1 180 ((dW B q.2.2.2).map .p))])
  (λq=>q.1<=u+1/\CxOk B q.2.1/\(q.2.1.length=cx.length+q.1/\q.2.1.length<=257)/\Ft (QB B) (q.2.1.length:Int) q.2.2.1/\q.2.2.2<=n/\iM B a z u (u+1-q.1) q.1 q.2.1 q.2.2.1 q.2.2.2=A) (λq=>u+1-q.1) (0,cx,m,n) ⟨KV _,hcx,⟨rfl,by show cx.length<=257;omega⟩,hm,KJ _,D⟩ ?_
 clear D hm
 rintro⟨i,h,mm,n1⟩ ⟨a6,C,⟨a7,a0⟩,fm,a8,d⟩;simp only at a6 C a7 a0 fm a8 d;have hW:=wC hI hB C Uo fm n1;refine aj<|ae (λg5=>?_) (λg5=>?_)
 ·have g5:(i:Int)<=((x.indices.map λt=>[ah t]).length:Int):=g5
  rw[show u+1-i=(u-i)+1 by omega]at d;simp only[iM]at d;cases R:fx B h mm n1 with
  |error e=>
   rw[R]at hW d;have d:.error e=A:=d;subst d;refine cH hW ?_;exact rfl
  |ok q=>
  obtain⟨f,K⟩:=q;obtain⟨ci,S,ff⟩:=jB hB C fm R;simp only at ff S;have fh:=ff.head;have F:=aC fh;have l1:=aq (λt=>[ah t]) ((argsT f).map row);have l2:=aq row (argsT f);rw[R]at hW d;have d:(if (headT f).n.op≠4 \/0<(argsT f).length then .error 16 else aQ (cU (jA B a z i u) K) λw n=>aQ (gB B h (kidD (headT f) 0) w false n) λb n=>if b=true then iM B a z u (u-i) (i+1) (h++[(kidD (headT f) 0,none)]) (kidD (headT f) 1) n else .error 16)=A:=d;refine ay hW ?_;refine aM 0 (aN F) ?_;refine ae (λH=>?_) (λH=>?_)
  ·rw[KX (.inl H)]at d
   subst d;refine bV (fB UO) ?_;exact rfl
  have H:(headT f).n.op=4:=QY H;refine ae (λE=>?_) (λE=>?_)
  ·have E:((((argsT f).map row).map λt=>[ah t]).length:Int)>0:=E
   rw[KX (.inr Uo)]at d;subst d;refine bV (fB UO) ?_;exact rfl
  have E:¬ ((((argsT f).map row).map λt=>[ah t]).length:Int)>0:=E;rw[KY Uo]at d;obtain⟨fl,f0,f1⟩:=eV fh (.inl H);refine ae (λg7=>?_) (λg7=>?_)
  ·have g7:(i:Int)<((x.indices.map λt=>[ah t]).length:Int):=g7
   obtain⟨q0,T,_⟩:=az (l:=qi) (k:=i);have a9:(fq B a).getD i (varX 0)=q0:=by rw[e2,QK,T];rfl
   have a1:Ft (QB B) ((cx.length:Int)+z.length+i) q0:=(hF.up_i hB hi T).mono Uo;have M:=N1 (qk B) Uo Uo (cg:=(i:Int)) Uo I Uo a1;have U:jA B a z i u=cR z (i:Int) z.length q0:=by
    unfold jA;rw[KX Uo,a9]
   rw[U]at d;refine aA i (x:=row q0) (by rw[hF.indices,JX,T];rfl) ?_;cases P:cR z (i:Int) z.length q0 with
   |error e=>
    rw[P]at M d;have d:.error e=A:=d;subst d;refine bV M ?_;exact rfl
   |ok w=>
    have fw:=zP (qk B) (cg:=(i:Int)) Uo Uo Uo Uo I z.length q0 w (KJ _) Uo a1 P;rw[P]at M d;have d:aQ (gB B h (kidD (headT f) 0) w false K) (λb n=>if b=true then iM B a z u (u-i) (i+1) (h++[(kidD (headT f) 0,none)]) (kidD (headT f) 1) n else .error 16)=A:=d;refine af (r:=ah (row w)) M ?_;have fw:Ft (QB B) (h.length:Int) w:=fw.mono Uo;refine af (iJ fh) ?_;refine aA 0 (aK F) ?_;have N:=AU hI hB C Uo f0 fw K false;cases V:gB B h (kidD (headT f) 0) w false K with
    |error e=>
     rw[V]at N d;have d:.error e=A:=d;subst d;refine cH N ?_;exact rfl
    |ok q=>
     obtain⟨b,n3⟩:=q;have W:=(qs V).2;simp only at W;rw[V]at N d;refine ay N ?_;cases b with
     |false=>
      have d:.error 16=A:=d;subst d;refine bV (fB UO) ?_;exact rfl
     |true=>
      have d:iM B a z u (u-i) (i+1) (h++[(kidD (headT f) 0,none)]) (kidD (headT f) 1) n3=A:=d;refine aA 0 (aK F) ?_;refine af (ow C Uo f0 (o:=none) λx Y=>by cases Y) ?_;refine aA 1 (aK F) ?_;refine vk ?_;refine vi ?_;have Z:Ft (QB B) ((h++[(kidD (headT f) 0,none)]).length:Int) (kidD (headT f) 1):=by rw[bQ];exact f1.mono Uo
      exact au (i+1,h++[(kidD (headT f) 0,none)],kidD (headT f) 1,n3) ⟨Us,C.snoc f0 (λx Y=>by cases Y),by rw[bQ];omega,Z,Us,by simp only;rw[show u+1-(i+1)=u-i by omega];exact d⟩
  ·have g7:¬ (i:Int)<((x.indices.map λt=>[ah t]).length:Int):=g7
   have U:jA B a z i u=aP (.mk ⟨9,a,0⟩ []) (z.map (λp=>aG p u 0)++varsM u 0):=by
    unfold jA;rw[KY Uo]
   rw[U]at d;have a2:Ft (QB B) (h.length:Int) (.mk ⟨9,a,0⟩ []):=pe (by simp[aw,aI];omega) (.inl rfl) (by
    simp only[QB,cr,aY];simp[ha])
   have a3:∀y∈z.map (λp=>aG p (u:Int) 0)++varsM u 0,Ft (QB B) (h.length:Int) y:=λy hy=>by
    rcases List.mem_append.1 hy with hy|hy
    ·obtain⟨p,hp,rfl⟩:=List.mem_map.1 hy
     exact((I p hp).lift (qk B) (b:=(u:Int)) Uo Uo Uo).mono Uo
    ·exact(lR (qk B) Uo Uo y hy).mono Uo
   have a':(varsM u 0).length=u:=by simp[varsM]
   have c1:(((x.indices.map λt=>[ah t]).length:Nat):Int)=(u:Int):=Uo
   show VCode _ _ _ _ _;refine dK 17 1000 39 1 rfl rfl<|aB τok (σ:=Nat) [(0,_),(1,_),(2,_),(3,_),(11,_),(12,_),(13,_),(14,_),(69,_),(70,_)] [(0,_),(11,_)] (λj=>[(17,.c (.row 1000)),(71,vI j)]) (λj=>[(1000,.rw 39 1 ((((z.take j).map λp=>aG p (u:Int) 0).map row).map rP))]) (λj=>j<=z.length) (λj=>z.length-j) 0 (KV _) ?_;intro j hj;have ej:(z.take j).length=j:=by rw[VJ];omega
   refine aj<|ae (λg8=>?_) (λg8=>?_)
   ·have g8:(j:Int)<(((z.map row).map λt=>[ah t]).length:Int):=g8
    obtain⟨p,hp,_⟩:=az (l:=z) (k:=j);have fp:=I p (JQ hp);have a4:=kO fp Uo (b:=(u:Int)) Uo;rw[<- c1]at a4;refine aA j (x:=row p) (by rw[JX,hp];rfl) ?_;refine af a4 ?_;refine af (fM _) ?_;refine bg ?_ (hb:=Uk);refine vi ?_;exact au (j+1) (by show j+1<=_;omega) (sw 1000 83) (y':=⟨KG (λl=>some (SE.rw _ _ l)) (by
     rw[dP hp,KB,KB,KB,c1]
     rfl),trivial⟩)
   have g8:¬ (j:Int)<(((z.map row).map λt=>[ah t]).length:Int):=g8;obtain rfl:j=z.length:=Uo
   rw[List.take_length];have ev:∀k,k<u ->(varsM u 0)[k]?=some (varX (0+((u-1-k:Nat):Int))):=λk hk=>by
    unfold varsM;rw[JX,List.getElem?_range hk]
    rfl
   refine vi ?_;refine aB τok (σ:=Nat×Int) [(0,_),(1,_),(2,_),(3,_),(11,_),(12,_),(13,_),(14,_)] [(0,_),(11,_)] (λq=>[(17,.c (.row 1000)),(20,vI q.2)]) (λq=>[(1000,.rw 39 1 (((z.map λp=>aG p (u:Int) 0).map row).map rP++(((varsM u 0).take q.1).map row).map rP))]) (λq=>q.1<=u/\q.2=(u:Int)-1-q.1) (λq=>u-q.1) (0,(((x.indices.map λt=>[ah t]).length:Nat):Int)-1) ⟨KV _,Us⟩ ?_ (y1:=⟨KG (λl=>some (SE.rw 39 1 l)) (by rw[List.take_zero];exact(JD _).symm),trivial⟩);rintro⟨k,v⟩ ⟨hk,hv⟩;simp only at hk hv;have ek:((varsM u 0).take k).length=k:=by rw[VJ];omega
   refine aj<|ae (λg=>?_) (λg=>?_)
   ·have g:v≥0:=g
    refine bg ?_ (hb:=Uk);refine vi ?_;exact au (k+1,v-1) ⟨Us,Us⟩ (sw 1000 96) (y':=⟨KG (λl=>some (SE.rw _ _ l)) (by
     rw[dP (ev k Uo),KB,KB,List.append_assoc,show (0:Int)+((u-1-k:Nat):Int)=v by omega]
     rfl),trivial⟩)
   have g:¬ v≥0:=g;obtain rfl:u=k:=Uo
   have O:=ti hB (L:=((z.map λp=>aG p (u:Int) 0).map row).map rP++(((varsM u 0).take u).map row).map rP) a2 a3 (by rw[JK,KF,a'];omega) (by
    rw[JG Uo,KB,KB])
   cases P:aP (.mk ⟨9,a,0⟩ []) (z.map (λp=>aG p (u:Int) 0)++varsM u 0)with
   |error e=>
    have he:=iI P;rw[P]at O d;have d:.error e=A:=d;subst d;refine af O ?_;refine bV (jy _ (show e≠0 by omega)) ?_;exact rfl
   |ok w=>
    have fw:=gv (qk B) a2 a3 P;rw[P]at O d;have d:aQ (gB B h (kidD (headT f) 0) w false K) (λb n=>if b=true then iM B a z u (u-i) (i+1) (h++[(kidD (headT f) 0,none)]) (kidD (headT f) 1) n else .error 16)=A:=d;refine af O ?_;refine af (fM _) ?_;refine af (iJ fh) ?_;refine aA 0 (aK F) ?_;have N:=AU hI hB C Uo f0 fw K false;cases V:gB B h (kidD (headT f) 0) w false K with
    |error e=>
     rw[V]at N d;have d:.error e=A:=d;subst d;refine cH N ?_;exact rfl
    |ok q=>
     obtain⟨b,n3⟩:=q;have W:=(qs V).2;simp only at W;rw[V]at N d;refine ay N ?_;cases b with
     |false=>
      have d:.error 16=A:=d;subst d;refine bV (fB UO) ?_;exact rfl
     |true=>
      have d:iM B a z u (u-i) (i+1) (h++[(kidD (headT f) 0,none)]) (kidD (headT f) 1) n3=A:=d;refine aA 0 (aK F) ?_;refine af (ow C Uo f0 (o:=none) λx Y=>by cases Y) ?_;refine aA 1 (aK F) ?_;refine vk ?_;refine vi ?_;have Z:Ft (QB B) ((h++[(kidD (headT f) 0,none)]).length:Int) (kidD (headT f) 1):=by rw[bQ];exact f1.mono Uo
      exact au (i+1,h++[(kidD (headT f) 0,none)],kidD (headT f) 1,n3) ⟨Us,C.snoc f0 (λx Y=>by cases Y),by rw[bQ];omega,Z,Us,by simp only;rw[show u+1-(i+1)=u-i by omega];exact d⟩
 have g5:¬ (i:Int)<=((x.indices.map λt=>[ah t]).length:Int):=g5;obtain rfl:i=u+1:=Uo
 rw[Nat.sub_self]at d;simp only[iM]at d;cases R:fx B h mm n1 with
 |error e=>
  rw[R]at hW d;have d:.error e=A:=d;subst d;refine cH hW ?_;exact rfl
 |ok q=>
 obtain⟨f,K⟩:=q;obtain⟨ci,S,ff⟩:=jB hB C fm R;simp only at ff S;have fh:=ff.head;have F:=aC fh;have l1:=aq (λt=>[ah t]) ((argsT f).map row);have l2:=aq row (argsT f);rw[R]at hW d;have d:(if (headT f).n.op≠2 \/0<(argsT f).length then .error 16 else .ok ((headT f).n.a,K))=A:=d;refine ay hW ?_;refine aM 0 (aN F) ?_;refine ae (λH=>?_) (λH=>?_)
 ·rw[KX (.inl H)]at d
  subst d;refine bV (fB UO) ?_;exact rfl
 have H:(headT f).n.op=2:=QY H;refine ae (λE=>?_) (λE=>?_)
 ·have E:((((argsT f).map row).map λt=>[ah t]).length:Int)>0:=E
  rw[KX (.inr Uo)]at d;subst d;refine bV (fB UO) ?_;exact rfl
 have E:¬ ((((argsT f).map row).map λt=>[ah t]).length:Int)>0:=E;rw[KY Uo]at d;subst d;refine aM 0 (aN F) ?_;exact eP9
end
section
variable{B:ak}{cx:Ctx}{t:Tr}{n g:Nat}{rc:RcJ}
variable(hI:BoI B)(hB:GoodB B)(hr:cF B rc)(hcx:CxOk B cx)(hcl:cx.length<=260)(ht:Ft (QB B) (cx.length:Int) t)
include hI hB hr hcx hcl ht
theorem Oc(Z:t.n.op=11)(hn:n<=100000)(hgo:qC B rc g)(hg:t.n.a.toNat*5000+4096<=g)(hT:∀i,i<(kidsT t).length ->∀n,n<=100000 ->bS B cx (kidD t i) n (rc cx (kidD t i) n)):
  ju prog 138 180 (dW B n) [aO (cx.map aE),.agg (ndP t.n),bG ((kidsT t).map row)] (dE B ia (kR B rc cx t.n (kidsT t) n)):=by
 obtain⟨lk,b9,b7,kf⟩:=sJ ht Z;have wt:=aC ht;have ha:=kA ht.node' (.inr Z);obtain⟨i0,x,s,ps,qi,ei,_,hi,R,K⟩:=hB.fam ha (KJ _);obtain⟨e1,e2,e3⟩:=K.ps_eq hi;rw[<- ei]at e1 e2 e3;generalize c:kR B rc cx t.n (kidsT t) n=f;unfold kR at c;simp only at c;rw[e1,e2,e3,R]at c;have a3:(kidsT t).getD 0 (varX 0)=kidD t 0:=rfl;have a4:(kidsT t).getD 1 (varX 0)=kidD t 1:=rfl;rw[a3,a4]at c;have b':=K.lp;have c0:=K.li;have c1:=K.lc;have eK:=aq (λt=>[ah t]) ((kidsT t).map row);have c2:=aq row (kidsT t);have l1:=aq bA x.ctors;have l2:=aq (λt=>[ah t]) x.params;have l3:=KG List.length K.params;have l4:=aq (λt=>[ah t]) x.indices;have l5:=KG List.length K.indices;rw[KF]at l3 l5;obtain⟨M,v⟩:∃k,ps.length=k:=⟨_,rfl⟩
 obtain⟨ni,a5⟩:∃k,qi.length=k:=⟨_,rfl⟩
 rw[v,a5]at c;have a6:=(cA wt (k:=0)).1;have a7:=(cA wt (k:=1)).1;have k0:=kf _ (JQ a6);have k1:=kf _ (JQ a7);obtain⟨o,A⟩:∃l,(kidsT t).drop 2=l:=⟨_,rfl⟩
 have c3:o.length=(kidsT t).length-2:=by rw[<- A,VK]
 have c4:=aq rP (o.map row);have c5:=aq row o;rw[A]at c;have S:∀(l:List Tr) y,y∈((l.map row).map λt=>[ah t]) ->y.length=1:=λl y u=>by
  obtain⟨_,_,rfl⟩:=List.mem_map.1 u
  rfl
 refine aX (r:=dE B ia f) 154 [.tmp 8] τok func138 ?_;refine aD<|aD<|cS i0 hi ?_ (hi:=ei);refine vk ?_;refine aD<|aA 0 (aK wt) ?_;refine aA 1 (aK wt) ?_;refine bO 2 (kidsT t).length ?_ (S _);have a8:((((kidsT t).map row).map λt=>[ah t]).take (kidsT t).length).drop 2=(o.map row).map rP:=by
  rw[JG Uo,<- List.map_drop,<- List.map_drop,A]
  rfl
 rw[a8];refine vk ?_;refine aD ?_;have s1:=hT 1 Uo n hn;unfold bS at s1;cases e4:rc cx (kidD t 1) n with
 |error e=>
  rw[e4]at s1 c;have c:.error e=f:=c;subst c;refine cH s1 ?_;exact rfl
 |ok q=>
 obtain⟨y,m⟩:=q;have fy:=hr.ft _ _ _ _ hcx hcl k1 e4;have hm:=hr.le _ _ _ _ e4;simp only at fy hm;rw[e4,oj]at c;rw[e4]at s1;simp only at c;have hW:=wC hI hB hcx hcl fy m;refine ay s1 ?_;cases e5:fx B cx y m with
 |error e=>
  rw[e5]at hW c;have c:.error e=f:=c;subst c;refine cH hW ?_;exact rfl
 |ok q=>
 obtain⟨z,m2⟩:=q;obtain⟨a0,a9,W⟩:=jB hB hcx fy e5;simp only at W a9;have wh:=aC W.head;have l6:=aq (λt=>[ah t]) ((argsT z).map row);have l7:=aq row (argsT z);have c6:=ou (aC W) 4096 W.len;rw[e5,oj]at c;rw[e5]at hW;simp only at c;refine ay hW ?_;refine aD<|aM 0 (aN wh) ?_;have j:(headT z).n.op≠9 \/(headT z).n.a≠t.n.a \/(argsT z).length≠M+ni -> .error 14=f:=λh=>by
  rw[KX h]at c;exact c
 refine ae (λg1=>?_) (λg1=>?_)
 ·have:=j (.inl g1)
  subst this;refine vk ?_;refine bV (fB UO) ?_;exact rfl
 refine aM 0 (aN wh) ?_;refine ae (λg2=>?_) (λg2=>?_)
 ·have:=j (.inr (.inl g2))
  subst this;refine vk ?_;refine bV (fB UO) ?_;exact rfl
 refine vi ?_;refine ae (λg3=>?_) (λg3=>?_)
 ·have g3:¬ ((((argsT z).map row).map λt=>[ah t]).length:Int)=((x.params.map λt=>[ah t]).length:Int)+((x.indices.map λt=>[ah t]).length:Int):=g3
  have:=j (.inr (.inr Uo));subst this;refine vk ?_;refine bV (fB UO) ?_;exact rfl
 have g3:¬ ¬ ((((argsT z).map row).map λt=>[ah t]).length:Int)=((x.params.map λt=>[ah t]).length:Int)+((x.indices.map λt=>[ah t]).length:Int):=g3;have c7:(headT z).n.op=9:=QY g1;have c8:(headT z).n.a=t.n.a:=QY g2;rw[KY Uo]at c;refine vk ?_;refine aD<|ae (λg4=>?_) (λg4=>?_)
 ·have g4:¬ (((o.map row).map rP).length:Int)=((x.ctors.map bA).length:Int):=g4
  rw[KX Uo]at c;subst c;refine bV (fB UO) ?_;exact rfl
 have g4:¬ ¬ (((o.map row).map rP).length:Int)=((x.ctors.map bA).length:Int):=g4;rw[KY Uo]at c;refine aD<|bO 0 M ?_ (S _) rfl (by show ((x.params.map λt=>[ah t]).length:Int)=_;omega);refine bO M (argsT z).length ?_ (S _) (by show ((x.params.map λt=>[ah t]).length:Int)=_;omega) (by show (argsT z).length=(((argsT z).map row).map λt=>[ah t]).length;omega);obtain⟨O,C⟩:∃l,(argsT z).take M=l:=⟨_,rfl⟩
 obtain⟨ix,D⟩:∃l,(argsT z).drop M=l:=⟨_,rfl⟩
 have T:O.length=M:=by rw[<- C,VJ];omega
 have U:∀y∈O,Ft (QB B) (cx.length:Int) y:=λy u=>W.args y (List.mem_of_mem_take (by rw[C];exact u));have hiF:∀y∈ix,Ft (QB B) (cx.length:Int) y:=λy u=>W.args y (List.mem_of_mem_drop (by rw[D];exact u));have c9:ix.length<=100:=by rw[<- D,VK];omega
 have a':((((argsT z).map row).map λt=>[ah t]).take M).drop 0=(O.map row).map rP:=by
  rw[List.drop_zero,<- List.map_take,<- List.map_take,C]
  rfl
 have b0:((((argsT z).map row).map λt=>[ah t]).take (argsT z).length).drop M=(ix.map row).map rP:=by
  rw[JG Uo,<- List.map_drop,<- List.map_drop,D]
  rfl
 rw[a',b0];rw[C,D]at c;refine vk ?_;refine aD ?_;have s0:=hT 0 Uo m2 Uo;unfold bS at s0;cases e6:rc cx (kidD t 0) m2 with
 |error e=>
  rw[e6]at s0 c;have c:.error e=f:=c;subst c;refine cH s0 ?_;refine gW ?_;refine vk ?_;exact rfl
 |ok q=>
 obtain⟨mt,m3⟩:=q;have fm:=hr.ft _ _ _ _ hcx hcl k0 e6;have b1:=hr.le _ _ _ _ e6;simp only at fm b1;rw[e6,oj]at c;rw[e6]at s0;simp only at c;refine ay s0 ?_;have hM:=Ob hI hB hcx a0 (n:=m3) ha U (by rw[T,e1,v]) fm;cases e7:qq B cx t.n.a O mt m3 with
 |error e=>
  rw[e7]at hM c;have c:.error e=f:=c;subst c;refine cH hM ?_;refine gW ?_;refine vk ?_;exact rfl
 |ok q=>
 obtain⟨b8,m4⟩:=q;have c':m4<=m3:=zY _ _ _ _ _ e7;rw[e7,oj]at c;rw[e7]at hM;simp only at c;refine ay hM ?_;refine vk ?_;refine dd τok (σ:=Nat) [(0,_),(1,_),(6,_),(10,_),(11,_),(12,_),(15,_),(16,_)] [(6,_)] (λ_=>[]) (λm=>[(0,.st 1 180 ((dW B m).map .p))])
  (λm=>m<=n/\aQ (lS B rc cx t.n.a O (kidD t 0) 0 o m) (λ_ n=>cU (aP (kidD t 0) (ix++[kidD t 1])) n)=f) ?_ ?_
 ·refine aM 0 (x:=s.n) (by rw[K.sort];exact aN (aC K.fs)) ?_
  refine ae (λY=>?_) (λY=>?_);rotate_left
  ·have Y:¬ s.n.a=0:=Y
   rw[KY Uo,oj]at c;simp only at c;rw[KY UO]at c;exact au m4 ⟨Uo,c⟩
  have Y:s.n.a=0:=Y;refine ae (λg8=>?_) (λg8=>?_);rotate_left
  ·rw[KY Uo,oj]at c
   simp only at c;rw[KY UO]at c;exact au m4 ⟨Uo,c⟩
  rw[KX ⟨Y,g8⟩]at c;have E:=Oa hI hB hr hgo (n:=m4) Uo ha hg;cases e8:jZ B rc t.n.a m4 with
  |error e=>
   rw[e8]at E c;have c:.error e=f:=c;subst c;refine cH E ?_;exact rfl
  |ok q=>
   obtain⟨b,m5⟩:=q;have V:=zZ hB hr e8;simp only at V;rw[e8,oj]at c;rw[e8]at E;simp only at c;refine ay E ?_;cases b with
   |true=>
    rw[KY UO]at c;exact au m5 ⟨Uo,c⟩
   |false=>
    rw[KX rfl]at c;subst c;refine bV (fB UO) ?_;exact rfl
 clear c
 rintro m5 ⟨V,d⟩;refine aj<|aB τok (σ:=Nat×Nat) [(0,_),(1,_),(6,_),(10,_),(11,_),(15,_),(16,_),(119,_),(120,_)] [(6,_)] (λq=>[(121,vI q.1)]) (λq=>[(0,.st 1 180 ((dW B q.2).map .p))])
  (λq=>q.1<=o.length/\q.2<=n/\aQ (lS B rc cx t.n.a O (kidD t 0) q.1 (o.drop q.1) q.2) (λ_ n=>cU (aP (kidD t 0) (ix++[kidD t 1])) n)=f) (λq=>o.length-q.1) (0,m5) ⟨KV _,V,d⟩ ?_
 clear d
 rintro⟨k,m6⟩ ⟨hk,b2,d⟩;simp only at hk b2 d;refine aj<|ae (λg9=>?_) (λg9=>?_)
 ·have g9:(k:Int)<(((o.map row).map rP).length:Int):=g9
  obtain⟨b,hb,b3⟩:=az (l:=o) (k:=k);have a1:(kidsT t)[2+k]?=some b:=by rw[<- A,List.getElem?_drop]at hb;exact hb
  have b4:kidD t (2+k)=b:=by
   have:=(cA wt (k:=2+k)).1;rw[a1]at this;exact(JB this).symm
  rw[b3]at d;simp only[lS]at d;have fb:=kf _ (JQ a1);have F:=N0 hB (N:=(cx.length:Int)) Uo Uo ha (b:=(k:Int)) Uo (by rw[R];omega) U (by rw[T,e1,v]) k0;refine aA k (x:=row b) (by rw[JX,hb];rfl) ?_;cases P:jg B t.n.a (k:Int) O (kidD t 0)with
  |error e=>
   have he:=zT P;rw[P]at F d;have d:.error e=f:=d;subst d;refine af F ?_;refine bV (jy _ (show e≠0 by omega)) ?_;refine gW ?_;refine vk ?_;exact rfl
  |ok ty=>
   have b5:=Fl hB Uo Uo ha Uo (by rw[R];omega) U (by rw[T,e1,v]) k0 P;rw[P]at F d;have d:aQ (aQ (dU B rc cx b ty m6) λ_ n=>lS B rc cx t.n.a O (kidD t 0) (k+1) (o.drop (k+1)) n) (λ_ n=>cU (aP (kidD t 0) (ix++[kidD t 1])) n)=f:=d;refine af F ?_;refine af (fM _) ?_;have a2:=hT (2+k) Uo m6 Uo;rw[b4]at a2;have hC:=tj hI hB hcx hcl hr fb b5 a2;cases H:dU B rc cx b ty m6 with
   |error e=>
    rw[H]at hC d;have d:.error e=f:=d;subst d;refine cH hC ?_;refine vk ?_;exact rfl
   |ok q=>
    obtain⟨_,m7⟩:=q;have b6:=(jC hr H).2;simp only at b6;rw[H,oj]at d;rw[H]at hC;refine ay hC ?_;refine vk ?_;refine vi ?_;exact au (k+1,m7) ⟨Us,Us,d⟩
 have g9:¬ (k:Int)<(((o.map row).map rP).length:Int):=g9;rw[List.drop_of_length_le Uo]at d;have d:cU (aP (kidD t 0) (ix++[kidD t 1])) m6=f:=d;refine gV (E2 (ys:=ix) (λy u=>⟨(hiF y u).ok,(hiF y u).len⟩) Uo) ?_;refine bg ?_ (hb:=Uk);have I:=ti hB (L:=(ix.map row).map rP++[rP (row (kidD t 1))]) k0 (ys:=ix++[kidD t 1]) (λy u=>by
  rcases List.mem_append.1 u with u|u
  ·exact hiF y u
  ·obtain rfl:y=kidD t 1:=by simpa using u
   exact k1) (by rw[JK];simp;omega) (by rw[KB,KB];rfl)
 cases P:aP (kidD t 0) (ix++[kidD t 1])with
 |error e=>
  have he:=iI P;rw[P]at I d;have d:.error e=f:=d;subst d;refine af I ?_;refine bV (jy _ (show e≠0 by omega)) ?_;exact rfl
 |ok w=>
  rw[P]at I d;have d:.ok (w,m6)=f:=d;subst d;refine af I ?_;refine af (fM _) ?_;exact eP9
end
section
variable{B:ak}{cx:Ctx}{t:Tr}{n:Nat}{rc:RcJ}
variable(hI:BoI B)(hB:GoodB B)(hcx:CxOk B cx)(hcl:cx.length<=260)(ht:Ft (QB B) (cx.length:Int) t)
variable(hr:cF B rc)
include hI hB hcx hcl ht hr
theorem Od(M:t.n.op=7)(R:n<=100000)(l:∀n,n<=100000 ->bS B cx (kidD t 0) n (rc cx (kidD t 0) n))(m:∀n,n<=100000 ->bS B cx (kidD t 1) n (rc cx (kidD t 1) n))(q:cx.length<=256 ->∀n,n<=100000 ->bS B (cx++[(kidD t 0,some (kidD t 1))]) (kidD t 2) n (rc (cx++[(kidD t 0,some (kidD t 1))]) (kidD t 2) n)):bS B cx t n (og B rc cx t n):=by
 obtain⟨b,a⟩:∃r,og B rc cx t n=r:=⟨_,rfl⟩
 unfold bS;rw[a];have wt:=aC ht;have S:=aq aE cx;refine aX (r:=dE B ia b) 258 [.tmp 6] τok func77 ?_;refine aj<|aM 0 (aN wt) ?_;refine vn (p:=t.n.op=1) ?_;refine vn (p:=t.n.op=2) ?_;refine vn (p:=t.n.op=8) ?_;refine vn (p:=t.n.op=9) ?_;refine vn (p:=t.n.op=10) ?_;refine af (iJ ht) ?_;refine vn (p:=t.n.op=4) ?_;refine vn (p:=t.n.op=5) ?_;refine vn (p:=t.n.op=6) ?_;refine vy (p:=t.n.op=7) ?_ M;obtain⟨Y,c,s,T⟩:=o9 ht M;unfold og at a;have h:=pj hI hB hcx hcl hr c (l n R);refine aA 0 (aK wt) ?_;cases i:dD B rc cx (kidD t 0) n with
 |error e=>
  rw[i]at h a;have a:.error e=b:=a;subst a;refine cH h ?_;exact rfl
 |ok p=>
 obtain⟨⟨U,Z⟩,A⟩:=p;obtain⟨c1,C,_⟩:=fA hB hr i;obtain⟨_,V,W⟩:=jD hB hr hcx c i;simp only at C V W;rw[i]at h a;refine ay h ?_;have j:=tj hI hB hcx hcl hr s c (m A Uo);have a:aQ (dU B rc cx (kidD t 1) (kidD t 0) A) (λ_ n=>
  aQ (rc (cx++[(kidD t 0,some (kidD t 1))]) (kidD t 2) n) λz n=>cU (bh z (kidD t 1) 0) n)=b:=a
 refine aA 1 (aK wt) ?_;refine aA 0 (aK wt) ?_;cases D:dU B rc cx (kidD t 1) (kidD t 0) A with
 |error e=>
  rw[D]at a j;have a:.error e=b:=a;subst a;refine cH j ?_;refine vk ?_;exact rfl
 |ok p=>
 obtain⟨_,E⟩:=p;have F:=(jC hr D).2;simp only at F;rw[D]at a j;have O:∀x,some (kidD t 1)=some x ->Ft (QB B) (cx.length:Int) x:=λx H=>by injection H with H;rw[<- H];exact s
 have d:=hcx.snoc c (v:=some (kidD t 1)) O;have I:Ft (QB B) ((cx++[(kidD t 0,some (kidD t 1))]).length:Int) (kidD t 2):=by rw[bQ];exact T.mono Uo
 have f:=q Uo E Uo;unfold bS at f;have a:aQ (rc (cx++[(kidD t 0,some (kidD t 1))]) (kidD t 2) E) (λz n=>cU (bh z (kidD t 1) 0) n)=b:=a;refine ay j ?_;refine vk ?_;refine aA 0 (aK wt) ?_;refine aA 1 (aK wt) ?_;refine af (ow hcx Uo c (o:=some (kidD t 1)) O) ?_;refine aA 2 (aK wt) ?_;cases K:rc (cx++[(kidD t 0,some (kidD t 1))]) (kidD t 2) E with
 |error e=>
  rw[K]at f a;have a:.error e=b:=a;subst a;refine cH f ?_;refine sf [false,false,false,true,true,true,true,true] ?_;refine aA 1 (aK wt) ?_;refine vk ?_;exact rfl
 |ok p=>
 obtain⟨y,P⟩:=p;have L:=hr.ft _ _ _ _ d (by rw[bQ];omega) I K;simp only at L;rw[bQ]at L;rw[K]at f a;have a:cU (bh y (kidD t 1) 0) P=b:=a;refine ay f ?_;refine aA 1 (aK wt) ?_;have k:=nX (x:=y) (u:=kidD t 1) (v:=0) (N:=(cx.length:Int)) (L.mono Uo) s Uo Uo;cases q1:bh y (kidD t 1) 0 with
 |error e=>
  have he:=gY q1;rw[q1]at k a;have a:.error e=b:=a;subst a;refine af k ?_;refine bV (jy _ (show e≠0 by omega)) ?_;refine gW ?_;refine vk ?_;exact rfl
 |ok z=>
  rw[q1]at k a;have a:.ok (z,P)=b:=a;subst a;refine af k ?_;refine af (fM _) ?_;exact kP9
end
section
variable{B:ak}{cx:Ctx}{t:Tr}{n g:Nat}{rc:RcJ}
variable(hI:BoI B)(hB:GoodB B)(hcx:CxOk B cx)(hcl:cx.length<=260)(ht:Ft (QB B) (cx.length:Int) t)
variable(hr:cF B rc)
include hI hB hr hcx hcl ht
theorem Oe(b:t.n.op=11)(f:n<=100000)(hgo:qC B rc g)(h:t.n.a.toNat*5000+4096<=g)(j:∀i,i<(kidsT t).length ->∀n,n<=100000 ->bS B cx (kidD t i) n (rc cx (kidD t i) n)):bS B cx t n (kR B rc cx t.n (kidsT t) n):=by
 have d:=Oc hI hB hr hcx hcl ht b f hgo h j;obtain⟨c,a⟩:∃r,kR B rc cx t.n (kidsT t) n=r:=⟨_,rfl⟩
 unfold bS;rw[a];have wt:=aC ht;refine aX (r:=dE B ia c) 258 [.tmp 6] τok func77 ?_;refine aj<|aM 0 (aN wt) ?_;rw[a]at d;refine vn (p:=t.n.op=1) ?_;refine vn (p:=t.n.op=2) ?_;refine vn (p:=t.n.op=8) ?_;refine vn (p:=t.n.op=9) ?_;refine vn (p:=t.n.op=10) ?_;refine af (iJ ht) ?_;refine vn (p:=t.n.op=4) ?_;refine vn (p:=t.n.op=5) ?_;refine vn (p:=t.n.op=6) ?_;refine vn (p:=t.n.op=7) ?_;refine vy (p:=t.n.op=11) ?_ b;cases c with
 |error e=>
  refine cH d ?_;exact rfl
 |ok q=>
  refine ay d ?_;exact eP9
theorem Of(c:t.n.op=12)(j:n<=100000)(d:∀i,i<t.n.b.toNat ->∀n,n<=100000 ->bS B cx (kidD t (2*i)) n (rc cx (kidD t (2*i)) n))(f:cx.length<=256 ->∀i,i<t.n.b.toNat ->∀n,n<=100000 ->bS B (cx++bv t) (kidD t (2*i+1)) n (rc (cx++bv t) (kidD t (2*i+1)) n)):bS B cx t n (lT B rc cx t n):=by
 have h:=AW hI hB hr hcx hcl ht c j d f;obtain⟨b,a⟩:∃r,lT B rc cx t n=r:=⟨_,rfl⟩
 unfold bS;rw[a];have wt:=aC ht;refine aX (r:=dE B ia b) 258 [.tmp 6] τok func77 ?_;refine aj<|aM 0 (aN wt) ?_;rw[a]at h;refine vn (p:=t.n.op=1) ?_;refine vn (p:=t.n.op=2) ?_;refine vn (p:=t.n.op=8) ?_;refine vn (p:=t.n.op=9) ?_;refine vn (p:=t.n.op=10) ?_;refine af (iJ ht) ?_;refine vn (p:=t.n.op=4) ?_;refine vn (p:=t.n.op=5) ?_;refine vn (p:=t.n.op=6) ?_;refine vn (p:=t.n.op=7) ?_;refine vn (p:=t.n.op=11) ?_;cases b with
 |error e=>
  refine cH h ?_;exact rfl
 |ok q=>
  refine ay h ?_;exact eP9
end
section
variable{B:ak}{g:Nat}{rc:RcJ}
variable(hI:BoI B)(hB:GoodB B)
include hI hB
theorem Og(hr:cF B rc)(hgo:qC B rc g):qC B (j3 B rc) (g+1):=λcx k t n hcx hcl ht m A b=>by
 have wt:=aC ht;have a:∀i,i<(kidsT t).length ->Mt k (kidD t i)/\k*5000+(row (kidD t i)).length<=g:=λi d=>by
  have:=m.kid (JQ (cA wt d).1);exact⟨this.1,Uo⟩
 unfold j3;refine FB t ht.ok (λh=>?_) (λh=>?_) (λh=>?_) (λh=>?_) (λh=>?_) (λh=>?_) (λh=>?_) (λh=>?_) (λh=>?_) (λh=>?_) (λh=>?_)
 ·rw[KX h]
  exact N2 hI hB hcx hcl ht h
 ·rw[KY Uo,KX h]
  exact N3 hI hB hcx hcl ht h
 ·rw[KY Uo,KY Uo,KX h]
  exact N4 hI hB hcx hcl ht h
 ·rw[KY Uo,KY Uo,KY Uo,KX h]
  exact N5 hI hB hcx hcl ht h
 ·rw[KY Uo,KY Uo,KY Uo,KY Uo,KX h]
  exact N6 hI hB hcx hcl ht h
 ·rw[KY Uo,KY Uo,KY Uo,KY Uo,KY Uo,KX h]
  obtain⟨j,c,e⟩:=eV ht (.inl h);exact N7 hI hB hcx hcl ht hr h b (λn b=>hgo _ k _ _ hcx hcl c (a 0 Uo).1 (a 0 Uo).2 b) λl n b=>hgo _ k _ _ (hcx.snoc c λx f=>by cases f) (by rw[bQ];omega) (by rw[bQ];exact e.mono Uo) (a 1 Uo).1 (a 1 Uo).2 b
 ·rw[KY Uo,KY Uo,KY Uo,KY Uo,KY Uo,KY Uo,KX h]
  obtain⟨j,c,e⟩:=eV ht (.inr h);exact N8 hI hB hcx hcl ht hr h b (λn b=>hgo _ k _ _ hcx hcl c (a 0 Uo).1 (a 0 Uo).2 b) λl n b=>hgo _ k _ _ (hcx.snoc c λx f=>by cases f) (by rw[bQ];omega) (by rw[bQ];exact e.mono Uo) (a 1 Uo).1 (a 1 Uo).2 b
 ·rw[KY Uo,KY Uo,KY Uo,KY Uo,KY Uo,KY Uo,KY Uo,KX h]
  obtain⟨j,c,e⟩:=sG ht h;exact N9 hI hB hcx hcl ht hr h b (λn b=>hgo _ k _ _ hcx hcl c (a 0 Uo).1 (a 0 Uo).2 b) λn b=>hgo _ k _ _ hcx hcl e (a 1 Uo).1 (a 1 Uo).2 b
 ·rw[KY Uo,KY Uo,KY Uo,KY Uo,KY Uo,KY Uo,KY Uo,KY Uo,KX h]
  obtain⟨j,c,e,p⟩:=o9 ht h;exact Od hI hB hcx hcl ht hr h b (λn b=>hgo _ k _ _ hcx hcl c (a 0 Uo).1 (a 0 Uo).2 b) (λn b=>hgo _ k _ _ hcx hcl e (a 1 Uo).1 (a 1 Uo).2 b) λl n b=>hgo _ k _ _ (hcx.snoc c λx f=>by injection f with f;rw[<- f];exact e) (by rw[bQ];omega) (by rw[bQ];exact p.mono Uo) (a 2 Uo).1 (a 2 Uo).2 b
 ·rw[KY Uo,KY Uo,KY Uo,KY Uo,KY Uo,KY Uo,KY Uo,KY Uo,KY Uo,KX h]
  obtain⟨q,r,s,u⟩:=sJ ht h;have v:=(kQ hB (kA ht.node' (.inr h))).1;have y:t.n.a<(k:Int):=m t.n (JQ (aN wt)) h;have:=aR t;exact Oe hI hB hcx hcl ht hr h b hgo Uo λi d n b=>hgo _ k _ _ hcx hcl (u _ (JQ (cA wt d).1)) (a i d).1 (a i d).2 b
 ·rw[KY Uo,KY Uo,KY Uo,KY Uo,KY Uo,KY Uo,KY Uo,KY Uo,KY Uo,KY Uo]
  obtain⟨q,r,s,_⟩:=dZ ht.ok h;have z:=gu ht.ok h;have o:(cx++bv t).length=cx.length+t.n.b.toNat:=by rw[JK,qp]
  exact Of hI hB hcx hcl ht hr h b (λi d n b=>hgo _ k _ _ hcx hcl (iL ht h d).2.2.1 (a _ Uo).1 (a _ Uo).2 b) λl i d n b=>hgo _ k _ _ (pb hcx Uo ht h) Uo ((iL ht h d).2.2.2.mono Uo) (a _ Uo).1 (a _ Uo).2 b
theorem jgG:∀g,qC B (eu B g) g
 |0=>λcx k t n _ _ _ _ h _=>by
  have:=aR t;omega
 |g+1=>Og hI hB (dj hB g) (jgG g)
end
@[irreducible] def GJ:Nat:=330000
theorem yj':64*5000+4096<=GJ:=by unfold GJ;decide
def mc(B:ak)(cx:Ctx)(t:Tr)(fuel:Int):Except Int (Tr×Nat):=eu B GJ cx t (bK fuel)
def kZ(B:ak)(cx:Ctx)(t ty:Tr)(fuel:Int):Except Int (Unit×Nat):=dU B (eu B GJ) cx t ty (bK fuel)
def iy(B:ak)(cx:Ctx)(t:Tr)(fuel:Int):Except Int ((Int×List Atom)×Nat):=dD B (eu B GJ) cx t (bK fuel)
theorem wD{B:ak}(hB:GoodB B){N:Int}{t:Tr}(h:Ft (QB B) N t):Mt 64 t:=λm b a=>by
 have:=h.al m b;have c:=kA this (.inr a);have:=kQ hB c;omega
theorem qD(f:Int):bK f<=100000:=by unfold bK;omega
section
variable{B:ak}{cx:Ctx}{X:List Nat}{w:World}
def GY(X:List Nat)(w:World)(r:Except Int (Tr×Nat))(e:Ending)(w':World):Prop:=
 z8 r (λq=>∃u,e= .returned (.tuple #[u,iV (q.2:Int),iV 0])/\TmV (Im X w') q.1 u) (λer=>e= .returned (.tuple #[.slice none 0 0,iV 0,iV er]))/\Kp [] w w'
end
def LkP(C:Mem)(B:ak)(known:Nat)(self:Int)(v:Value):Prop:=
 ∃v1 v2 v3,v= .agg #[iV B.vars,v1,v2,iV B.nat,v3,iV (known:Int),iV self]/\SV rOr C B.orders v1/\SV rEn C B.ents v2/\SV rPr C B.prims v3/\known<=B.ents.length
def EnP(C:Mem)(x:cf)(v:Value):Prop:=
 ∃w1 w2 w3 w4 w5 w6,v= .agg #[iV x.kind,w1,w2,w3,w4,w5,w6]/\SV rNd C x.sort w1/\SV (gJ rNd) C x.params w2/\SV (gJ rNd) C x.indices w3/\SV rCt C x.ctors w4/\SV rNd C x.type w5/\SV rNd C x.body w6
structure Bxs(C:Mem)(w:World)(B:ak)(known:Nat)(x:cf)(b2 b3:Nat)(v1 v2 v3 w1 w2 w3 w4 w5 w6:Value):Prop where
 lk:Bk w.heap b2 [iV B.vars,v1,v2,iV B.nat,v3,iV (known:Int),iV (-1)] 116
 en:Bk w.heap b3 [iV x.kind,w1,w2,w3,w4,w5,w6] 43
 o:SV rOr C B.orders v1
 e:SV rEn C B.ents v2
 p:SV rPr C B.prims v3
 k:known<=B.ents.length
 so:SV rNd C x.sort w1
 pa:SV (gJ rNd) C x.params w2
 ix:SV (gJ rNd) C x.indices w3
 ct:SV rCt C x.ctors w4
 lp:x.params.length<=16
 li:x.indices.length<=16
def FV':List Int ->Int
 |[]=>0
 |a::r=>bE a (FV' r)
def GrP(h:Array Obj)(b:Nat)(g:Lv.G):Prop:=∃es clock l,h[b]?=some (.map es clock)/\Ents es.toList l/\∀x y,g x y=(xW x y l 0).map (·.2)
def Oh(g:G):Prop:=∀x y v,g x y=some v ->v=1
def GZ{α:Type}(F:Nat ->Except Int (α×Nat)):Prop:=∀n a n',n<=100000 ->F n= .ok (a,n') ->n'<=n/\∀m,m<=100000 ->(n-n'<=m ->F m= .ok (a,m-(n-n')))/\(m<n-n' ->F m= .error 10)
section
variable{B:ak}
abbrev Oi(rc:RcC):Prop:=∀cx x y u,GZ (rc cx x y u)
abbrev AX(rc:RcJ):Prop:=∀cx t,GZ (rc cx t)
variable{rc:RcJ}(hr:AX rc)
include hr
end
def bL(t:List Nd)(e:Int):Bool:=t.any λm=>decide (m.op=9/\m.a=e)
def me(e ar:Int)(np:Nat):List Tr ->Nat ->Bool
 |[],_=>true
 |a::r,i=>if (i<np/\row a≠[⟨1,ar-1-(i:Int),0⟩]) \/bL (row a) e=true then false else me e ar np r (i+1)
def wE(np ni:Nat)(e ar:Int)(x:Tr):Bool:=if row (headT x)≠[⟨9,e,0⟩] \/(argsT x).length≠np+ni then false else me e ar np (argsT x) 0
def qE(np ni:Nat)(e:Int):Nat ->Tr ->Int ->Bool
 |0,_,_=>false
 |g+1,x,ar=>if x.n.op=4 then (if bL (row (kidD x 0)) e=true then false else qE np ni e g (kidD x 1) (ar+1))else wE np ni e ar x
def fV(np ni:Nat)(e:Int)(x:Tr)(ar:Int):Bool:=if bL (row x) e=false then true else qE np ni e (row x).length x ar
def ox(np ni:Nat)(e:Int):List Tr ->Nat ->Bool
 |[],_=>true
 |a::r,i=>if fV np ni e a ((np+i:Nat):Int)=false then false else ox np ni e r (i+1)
def AY(np ni:Nat)(e:Int)(c:dy):Bool:=if ox np ni e (c.args.map tr) 0=false then false else !(c.out.any λt=>bL t e)
def oy(np ni:Nat)(e:Int):List dy ->Bool
 |[]=>true
 |c::r=>if AY np ni e c=false then false else oy np ni e r
def AZ(B:ak)(e:Int):Bool:=oy (ax B e).params.length (ax B e).indices.length e (ax B e).ctors
def jk(B:ak)(e:Int):Int:=if cP B≠0 then cP B else if e<0 then 1 else if (B.ents.length:Int)<=e then 1 else if (ax B e).kind≠1 then 1 else 0
def gn(B:ak):List Tr ->Ctx ->Nat ->Except Int (Ctx×Nat)
 |[],cx,n=>.ok (cx,n)
 |x::r,cx,n=>aQ (iy B cx x (n:Int)) λ_ n=>gn B r (cx++[(x,none)]) n
def jl(B:ak)(e:Int):List Tr ->Ctx ->Nat ->Except Int (Ctx×Nat)
 |[],cx,n=>.ok (cx,n)
 |a::r,cx,n=>aQ (iy B cx a (n:Int)) λl n=>if gb B.vars B.orders l.2 (bq (tr (ax B e).sort))=false then .error 21
   else if fV (ax B e).params.length (ax B e).indices.length e a (cx.length:Int)=false then .error 20 else jl B e r (cx++[(a,none)]) n
def jG(go:List Tr):Nat ->Tr ->Except Int Tr
 |0,t=>.ok t
 |i+1,t=>(bh t (aG (go.getD i (varX 0)) (i:Int) 0) 0).bind (jG go i)
def iS(qi go:List Tr)(na j:Nat):Except Int Tr:=jG go j (aG (qi.getD j (varX 0)) (na:Int) (j:Int))
def jm(B:ak)(e:Int)(go:List Tr)(na:Nat)(cx:Ctx):List Tr ->Nat ->Nat ->Except Int (Unit×Nat)
 |[],_,n=>.ok ((),n)
 |o::r,j,n=>if bL (row o) e=true then .error 20 else aQ (cU (iS (fq B e) go na j) n) λwant n=>aQ (kZ B cx o want (n:Int)) λ_ n=>jm B e go na cx r (j+1) n
def j8(B:ak)(e:Int)(cp:Ctx):List dy ->Nat ->Except Int (Unit×Nat)
 |[],n=>.ok ((),n)
 |c::r,n=>aQ (jl B e (c.args.map tr) cp n) λcx n=>aQ (jm B e (c.out.map tr) c.args.length cx (c.out.map tr) 0 n) λ_ n=>j8 B e cp r n
def pk(B:ak)(e:Int)(n:Nat):Except Int (Unit×Nat):=
 aQ (mc B [] (tr (ax B e).sort) (n:Int)) λ_ n=>aQ (gn B (gh B e) [] n) λcp n=>aQ (gn B (fq B e) cp n) λ_ n=>j8 B e cp (ax B e).ctors n
def famTop(B:ak)(e:Int)(fuel:Int):Except Int (Unit×Nat):=if jk B e≠0 then .error (jk B e)else pk B e (bK fuel)
theorem G0{B:ak}:∀(l:List Tr) (cx:Ctx) (n:Nat) (q:Ctx×Nat),gn B l cx n= .ok q ->q.1=cx++l.map λx=>(x,none)
 |[],cx,n,q,h=>by cases h;simp
 |x::r,cx,n,q,h=>by
  obtain⟨p,_,h⟩:=bC h;rw[G0 r _ _ _ h];simp
theorem G1{B:ak}{e:Int}:∀(l:List Tr) (cx:Ctx) (n:Nat) (q:Ctx×Nat),jl B e l cx n= .ok q ->q.1=cx++l.map λx=>(x,none)
 |[],cx,n,q,h=>by cases h;simp
 |a::r,cx,n,q,h=>by
  obtain⟨p,_,h⟩:=bC h;split at h
  ·cases h
  split at h
  ·cases h
  rw[G1 r _ _ _ h];simp
theorem wF{B:ak}{e:Int}(h:jk B e=0):cP B=0/\GoodB B/\0<=e/\e<B.ents.length/\B.ents[e.toNat]?=some (ax B e)/\∃s c d,GoodF B e.toNat (ax B e) s c d:=by
 unfold jk at h;split at h
 ·rename_i g;exact absurd h g
 rename_i a;split at h
 ·cases h
 split at h
 ·cases h
 split at h
 ·cases h
 rename_i f i j;have hB:=FE (Decidable.not_not.1 a);have b:B.ents[e.toNat]?=some (ax B e):=by
  unfold ax;rw[QK];have:e.toNat<B.ents.length:=Uo
  simp[this]
 refine⟨Decidable.not_not.1 a,hB,Uo,Uo,b,?_⟩;rcases hB.ent _ _ b with h|⟨k,l,h⟩
 ·exact h
 ·have:=h.kind
  omega
theorem qF{l:List (List Nd)}{ys:List Tr}(h:l=ys.map row)(a:∀y∈ys,Ok .tm y):l.map tr=ys:=by
 subst h;rw[List.map_map];have:∀y∈ys,(tr∘row) y=y:=λy b=>iY (a y b);exact(List.map_congr_left this).trans (List.map_id' ys)
theorem Oj(m:Nd)(l:List Nd)(e:Int):bL (m::l) e=(decide (m.op=9/\m.a=e)||bL l e):=by simp only[bL,List.any_cons]
theorem A0(a b:List Nd)(e:Int):bL (a++b) e=(bL a e||bL b e):=by simp only[bL,List.any_append]
theorem G2{l:List Nd}{e:Int}(h:∀f∈l,f.op≠9):bL l e=false:=by
 unfold bL;rw[List.any_eq_false];intro f a;have:=h f a;simp[this]
theorem G3(op e:Int){F:List Nd}(b:∀f∈F,f.op≠9):∀(l:List Tr) (i:Nat),bL (cj op F i l) e=l.any λy=>bL (row y) e
 |[],_=>rfl
 |k::r,i=>by
  simp only[cj,List.any_cons];rw[A0,A0,G3 op e b r (i+1),G2 (l:=if op=12/\i%2=0 then (F[i/2]?).toList else []),Bool.false_or];intro f a;split at a
  ·cases h:F[i/2]? with
   |none=>rw[h]at a;cases a
   |some q=>
    rw[h]at a;obtain rfl:f=q:=by simpa using a
    exact b _ (JQ h)
  ·cases a
theorem G4{x:Tr}(d:Ok .tm x)(h:x.n.op=2 \/x.n.op=12):∀f∈x.ks.map (·.n),f.op≠9:=by
 obtain⟨n,e⟩:=x;obtain⟨⟨o,j⟩,c⟩:=d;intro f k;obtain⟨y,l,rfl⟩:=List.mem_map.1 k;obtain⟨i,c⟩:=JH l;have:=iW e 0 i y j c;obtain⟨m,p⟩:=y;have h:n.op=2 \/n.op=12:=h;have a:=this.1;rcases h with h|h
 ·have b:nx .tm n (0+i)= .am:=by simp[nx,h]
  rw[b]at a;simp only[cnt]at a;split at a
  ·rename_i q
   show m.op≠9;omega
  ·cases a
 ·have b:nx .tm n (0+i)= .fn:=by simp[nx,h]
  rw[b]at a;simp only[cnt]at a;split at a
  ·rename_i q
   show m.op≠9;omega
  ·cases a
theorem G5{x:Tr}(a:Ok .tm x)(e:Int):bL (row x) e=(decide (x.n.op=9/\x.n.a=e)||(kidsT x).any λy=>bL (row y) e):=by
 have c:∀f∈atmsT x,f.op≠9:=by
  unfold atmsT;split
  ·rename_i h
   exact G4 a (.inl h)
  ·intro f b;cases b
 have d:∀f∈funsT x,f.op≠9:=by
  unfold funsT;split
  ·rename_i h
   exact G4 a (.inr h)
  ·intro f b;cases b
 rw[iH a,Oj,A0,G2 c,G3 _ _ d,Bool.false_or]
theorem A1{x:Tr}(d:Ok .tm x)(h:x.n.op=1 \/x.n.op=9):row x=[x.n]/\x.n.b=0:=by
 obtain⟨n,j⟩:=x;have c:n.op=1 \/n.op=9:=h
 clear h
 obtain⟨e,_,_⟩:=d.kids;obtain⟨a,_,_,b⟩:=eS e;have f:¬ n.op=2:=Uo
 rw[KY f]at b;have i:bw n=0:=by unfold bw;rcases c with h|h<;>simp[h]
 rw[i]at b;obtain rfl:=List.length_eq_zero_iff.1 b;refine⟨rfl,?_⟩;show n.b=0;unfold aw at a;rcases c with h|h
 ·rw[KX h,Bool.and_eq_true,decide_eq_true_eq]at a
  exact a.2
 ·rw[KY Uo,KY Uo,KY Uo,KY Uo,KX (.inr h),Bool.and_eq_true,decide_eq_true_eq]at a
  exact a.2
theorem row_one{x:Tr}(i:Ok .tm x){op:Int}(h:op=1 \/op=9)(v:Int):row x=[⟨op,v,0⟩]↔x.n.op=op/\x.n.a=v:=by
 constructor
 ·intro d
  have:x.n=⟨op,v,0⟩:=by
   obtain⟨n,k⟩:=x;simp only[row,List.cons.injEq]at d;exact d.1
  rw[this];exact⟨rfl,rfl⟩
 ·rintro⟨e,d⟩
  obtain⟨j,f⟩:=A1 i (by rw[e];exact h);rw[j]
  congr 1
  generalize x.n=n at *
  obtain⟨a,b,c⟩:=n;simp only at e d f;rw[e,d,f]
def mf(np:Nat)(e first:Int):Nat ->Tr ->Bool
 |0,x=>decide (x.n.op=9/\x.n.a=e)
 |i+1,x=>if x.n.op≠6 then false else if bL (row (kidD x 1)) e=true \/(i<np/\((kidD x 1).n.op≠1 \/(kidD x 1).n.a≠first-(i:Int)))then false else mf np e first i (kidD x 0)
def nj(np ni:Nat)(e:Int):Nat ->Tr ->Int ->Bool
 |0,_,_=>false
 |g+1,x,first=>if bL (row x) e=false then true else if x.n.op=4 then !bL (row (kidD x 0)) e && nj np ni e g (kidD x 1) (first+1)else mf np e first (np+ni) x
theorem G6(e ar:Int)(np:Nat)(a:Tr):∀(l:List Tr) (i:Nat),me e ar np (l++[a]) i=(me e ar np l i && !decide ((i+l.length<np/\row a≠[⟨1,ar-1-((i+l.length:Nat):Int),0⟩]) \/bL (row a) e=true))
 |[],i=>by
  simp only[List.nil_append,me,JU,Nat.add_zero,Bool.true_and];split
  ·rename_i h;rw[KU h];rfl
  ·rename_i h;rw[KH h];rfl
 |b::l,i=>by
  simp only[List.cons_append,me,JV];rw[G6 e ar np a l (i+1),show i+1+l.length=i+(l.length+1) by omega];split
  ·rfl
  ·rfl
theorem G7(np:Nat)(e ar:Int):∀(k:Nat) (x:Tr),Wf x ->mf np e (ar-1) k x=(decide (row (headT x)=[⟨9,e,0⟩]/\(argsT x).length=k) && me e ar np (argsT x) 0)
 |0,x,i=>by
  simp only[mf]
  by_cases b:x.n.op=6
  ·obtain⟨f,a,_,_,_,_,c,_⟩:=j6 i b
   rw[KH Uo,KH (by rw[c];simp)]
   rfl
  ·obtain⟨j,c⟩:=gk b
   rw[j,c];simp only[me,Bool.and_true,JU,and_true]
   congr 1
   rw[eq_iff_iff];exact(row_one i.ok (.inr rfl) e).symm
 |k+1,x,i=>by
  simp only[mf]
  by_cases b:x.n.op=6
  ·obtain⟨f,a,o,q,r,j,c,_⟩:=j6 i b
   have s:kidD x 0=f:=by unfold kidD;rw[o];rfl
   have u:kidD x 1=a:=by unfold kidD;rw[o];rfl
   rw[KY (by simpa using b),s,u,G7 np e ar k f q,j,c,G6];simp only[JK,JV,JU,KW,Nat.add_right_cancel_iff]
   by_cases l:row (headT f)=[⟨9,e,0⟩]/\(argsT f).length=k
   ·rw[KU l,l.2]
    simp only[Bool.true_and];have hr:=row_one r.ok (op:=1) (.inl rfl) (ar-1-(k:Int))
    by_cases d:bL (row a) e=true \/(k<np/\(a.n.op≠1 \/a.n.a≠ar-1-(k:Int)))
    ·rw[KX d,KU]
     ·simp
     ·rcases d with d|⟨m,p⟩
      ·exact .inr d
      ·refine .inl ⟨m,λh=>?_⟩
       have:=hr.1 h;omega
    ·rw[KY d,KH]
     ·simp
     ·rintro(⟨m,p⟩|h)
      ·refine d (.inr ⟨m,?_⟩)
       by_cases v:a.n.op=1/\a.n.a=ar-1-(k:Int)
       ·exact absurd (hr.2 v) p
       ·omega
      ·exact d (.inl h)
   ·rw[KH l]
    simp
  ·rw[KX (by simpa using b)]
   obtain⟨j,c⟩:=gk b;rw[c,KH Ud]
   rfl
theorem Ol(np ni:Nat)(e ar:Int){x:Tr}(b:Wf x):wE np ni e ar x=mf np e (ar-1) (np+ni) x:=by
 rw[G7 np e ar _ x b];unfold wE
 by_cases h:row (headT x)=[⟨9,e,0⟩]/\(argsT x).length=np+ni
 ·rw[KY (λq=>q.elim (λq=>q h.1) λq=>q h.2),KU h,Bool.true_and]
 ·rw[KX (by by_cases a:row (headT x)=[⟨9,e,0⟩];exact .inr λc=>h ⟨a,c⟩;exact .inl a),KH h]
  rfl
theorem G8(np ni:Nat)(e:Int):∀(g c:Nat) (x:Tr) (ar:Int),Wf x ->(row x).length<=g ->(row x).length<=c ->bL (row x) e=true ->nj np ni e g x (ar-1)=qE np ni e c x ar
 |0,_,x,ar,a,hl,_,d=>by have:=aR x;omega
 |_+1,0,x,ar,a,_,hl,d=>by have:=aR x;omega
 |g+1,c+1,x,ar,a,hl,h,d=>by
  simp only[nj,qE];rw[KY (by rw[d];simp)]
  by_cases b:x.n.op=4
  ·obtain⟨i,l,j,m,o⟩:=gm a (.inl b)
   rw[KX b,KX b];have f:=G5 a.ok e;rw[d,i,KH Uo]at f;simp only[List.any_cons,List.any_nil,Bool.or_false,Bool.false_or]at f;cases k:bL (row (kidD x 0)) e with
   |true=>rfl
   |false=>
    rw[k,Bool.false_or]at f;rw[KY Ud,show ar-1+1=ar+1-1 by omega,G8 np ni e g c _ (ar+1) j Uo Uo f.symm]
    rfl
  ·rw[KY b,KY b,Ol np ni e ar a]
theorem Om(np ni:Nat)(e:Int){x:Tr}(b:Wf x)(ar:Int)(g:Nat)(c:(row x).length<=g):nj np ni e g x (ar-1)=fV np ni e x ar:=by
 unfold fV;cases a:bL (row x) e with
 |false=>
  have:=aR x;obtain⟨g,rfl⟩:∃k,g=k+1:=⟨g-1,Uo⟩
  simp[nj,a]
 |true=>
  rw[KY Ud];exact G8 np ni e g _ x ar b c (KJ _) a
end Go.Q
