import Derived.Test.YtfjfpkkpfbadoaaGreatMf05
set_option linter.all false
set_option maxHeartbeats 4000000
noncomputable section
open Go.Proofs Go.Proofs.Tryz Cd Go.Wx Lv Tm
namespace Go.Wx
def jv(l:List AC):Option (List PV):=List.rec (motive:=λ_=>Option (List PV)) (some []) (λc _ ih=>match c with
 | .p x=>match ih with
  |some r=>some (x::r)
  |none=>none
 |_=>none) l
theorem qP':∀{cs:List AC} {xs:List PV},jv cs=some xs ->cs=xs.map .p
 |[],xs,h=>by
  obtain rfl:=JB h
  rfl
 |c::r,xs,h=>by
  cases c with
  |p x=>
   have h:(match jv r with
    |some r=>some (x::r)
    |none=>none)=some xs:=h
   split at h
   ·rename_i b a
    obtain rfl:=JB h;rw[qP' a]
    rfl
   ·cases h
  |_=>
   have h:none=some xs:=h;cases h
def rW(b:AV):Option (List PV):=match b with
 | .c x=>match x with
  | .p y=>match y with
   | .agg ys=>some ys
   |_=>none
  |_=>none
 | .agg cs=>jv cs
 | .tp _=>none
theorem Kl{C:Mem}{ρ:Nat ->Value}{b:AV}{ys:List PV}{u:Value}(h:rW b=some ys)(hr:RA C ρ b u):RV C (.agg ys) u:=by
 cases b with
 |c x=>
  cases x with
  |p y=>
   cases y with
   |agg r=>
    obtain rfl:=JB h;exact hr
   |_=>cases h
  |_=>cases h
 |agg a=>
  have h:jv a=some ys:=h;have e:=qP' h;obtain⟨d,rfl,j,l⟩:=hr;refine RV.agg ys d (by rw[j,e,KF]) λi y u m q=>?_;exact l i (.p y) u (by rw[e,JX,m];rfl) q
 |tp a=>cases h
theorem Km{P:Program}{w:World}{b o:Nat}{vs:List Value}{k:World ->Prop}{cs:List Value}{T:TypeId}(hb:Bk w.heap b cs T)(Z:o+vs.length<=cs.length)(U:∀v∈vs,v.oneCell'=true)
  (V:∀w',Bk w'.heap b (cs.take o++(vs++cs.drop (o+vs.length))) T ->w'.heap.size=w.heap.size ->Kp [b] w w' ->k w'):EvRunU P (storeCells ⟨b,o,none⟩ vs) w k:=by
 have H:∀(r:List Value) (i:Nat) (w0:World) (d:List Value),(∀v∈r,v.oneCell'=true) ->d.length=o+i ->(∃a,Bk w0.heap b (d++a) T/\r.length<=a.length/\a.drop r.length=cs.drop (o+vs.length)) ->w0.heap.size=w.heap.size ->Kp [b] w w0 ->
   ∃w',(storeCells ⟨b,o,none⟩ r i).run P w0= .ok () w'/\Bk w'.heap b (d++(r++cs.drop (o+vs.length))) T/\w'.heap.size=w.heap.size/\Kp [b] w w':=by
  intro r
  induction r with
  |nil=>
   intro i w0 d _ _ ⟨a,h,e,j⟩ l m;have j:a=cs.drop (o+vs.length):=by simpa using j
   exact⟨w0,by simp[storeCells],by rw[List.nil_append,<- j];exact h,l,m⟩
  |cons v r W=>
   intro i w0 d y q ⟨a,h,e,j⟩ l m
   match a,e,j with
   |u::a,e,j=>
   have t:w0.cell? ⟨b,o+i,none⟩=some u:=(h.cl (by rw[<- q];simp)).cell;have z:w0.heap[b]?=some (.cells (d++u::a).toArray T (0,0)):=h;have D:=run_store P w0 ⟨b,o+i,none⟩ v .plain (y v Ud);have I:w0.frozen? ⟨b,o+i,none⟩=false:=by simp[World.frozen?,z]
   simp only[t,I,Bool.false_eq_true,if_false]at D;have E:(⟨b,o,none⟩:Addr).add i=⟨b,o+i,none⟩:=by
    unfold Addr.add;split
    ·rename_i Y;subst Y;rfl
    ·rfl
   have F:Bk (w0.setCell ⟨b,o+i,none⟩ v).heap b ((d++[v])++a) T:=by
    unfold Bk;simp only[World.setCell,Array.getElem?_modify,if_true,z];rw[<- q];simp
   obtain⟨w',L,M,N,O⟩:=W (i+1) (w0.setCell ⟨b,o+i,none⟩ v) (d++[v]) (λx S=>y x (by simp[S])) (by simp[q];omega) ⟨a,F,by simpa using e,by simpa using j⟩ (by simp[World.setCell,l])
    (m.trans (Kp.set w0 ⟨b,o+i,none⟩ v) (λx S _=>S))
   refine⟨w',?_,by simpa using M,N,O⟩;simp only[storeCells,Sem.run_bind,E,D,Result.andThen_ok];exact L
 obtain⟨w',L,M,N,O⟩:=H vs 0 w (cs.take o) U (by rw[VJ];omega) ⟨cs.drop o,by rw[List.take_append_drop];exact hb,by rw[VK];omega,by rw[List.drop_drop]⟩ rfl (Kp.refl _ _);exact tY L (V w' M N O)
theorem Ej{α:Type}{k:Nat}:∀(css:List (List α)),(∀cs∈css,cs.length=k) ->∀(i:Nat) (cs vs:List α),css[i]?=some cs ->vs.length=k ->(css.set i vs).flatten=css.flatten.take (i*k)++(vs++css.flatten.drop (i*k+k))
 |c::r,h,0,cs,vs,h1,h2=>by
  have hc:=h c Ud;rw[List.set_cons_zero,List.flatten_cons,List.flatten_cons,Nat.zero_mul,List.take_zero,List.nil_append,KW,<- hc,List.drop_left]
 |c::r,h,i+1,cs,vs,h1,h2=>by
  have hc:=h c Ud;have a:=Ej r (λx b=>h x (by simp[b])) i cs vs (by simpa using h1) h2;have d:i*k+k=c.length+i*k:=Uo
  have e:i*k+k+k=c.length+(i*k+k):=Uo
  have j:List.take (i*k+k) (c++r.flatten)=c++List.take (i*k) r.flatten:=by rw[d,List.take_length_add_append]
  rw[List.set_cons_succ,List.flatten_cons,List.flatten_cons,a,Nat.succ_mul,j,e,List.drop_length_add_append,List.append_assoc]
section
variable{w0:World}{X:List Nat}{C0:Mem}{P:Program}{τ:Tau}{n:Nat}{o:Oper}{A A':AS}{k:Kk}{s s':St}{w w':World}{C C':Mem}{ρ:Nat ->Value}
theorem Rp.modRw(h:Rp w0 X C0 A' s w C ρ){j b e sz:Nat}{l d:List (List PV)}(hm:look A'.m j=some (.rw e sz l))(i:blk (ρ j)=some b)(q:Kp [b] w w'){wr:List (Nat×AV)}(r:RE w0.heap.size X (A'.upd wr [(j,.rw e sz d)]) C ρ w' j (.rw e sz d))
  (u:∀t a,look wr t=some a ->∃v,get s'.e t=some v/\RA C ρ a v) (m:∀t,look wr t=none ->get s'.e t=get s.e t):
  Rp w0 X C0 (A'.upd wr [(j,.rw e sz d)]) s' w' C ρ:=h.modR hm (by rw[i];exact q) r u m
theorem Rp.row_at(h:Rp w0 X C0 A s w C ρ){j e sz i:Nat}{l:List (List PV)}(hm:look A.m j=some (.rw e sz l))(hi:i<l.length)(hsz:1<=sz):
  ∃(b cap:Nat) (css:List (List Value)) (a:List Value),ρ j= .slice (some ⟨b,0,none⟩) l.length cap/\(w0.heap.size<=b \/b∈X)/\Bk w.heap b a e/\l.length<=cap/\cap<=maxLen/\a.length=cap*sz/\a.take (l.length*sz)=css.flatten/\(∀x∈l,x.length=sz)/\css.length=l.length/\(∀us∈css,us.length=sz)/\∀(i:Nat) (us:List Value) x,css[i]?=some us ->l[i]?=some x ->∀(j:Nat) y u,x[j]?=some y ->us[j]?=some u ->u.oneCell'=true/\RV C y u:=by
 obtain⟨css,⟨⟨E,F⟩,m⟩,H,I,v⟩:=h.ent j _ hm;have d:∀us∈css,us.length=sz:=λus r=>by
  obtain⟨q,z⟩:=JH r;have L:=aL z;exact(v q us _ z (gE)).1
 rcases F with ⟨_,V⟩|⟨g,cap,a,D,hb,M,N,O,t,S⟩
 ·omega
 ·exact⟨g,cap,css,a.toList,D,m g (by rw[D];rfl),by unfold Bk;simpa using M,N,O,by simpa using t,S,H,I,d,λi us x T U=>(v i us x T U).2⟩
theorem Ek{w0:World}{wr:List (Nat×AV)}{wm:List (Nat×SE)}{j e sz i b cap:Nat}{l:List (List PV)}{css:List (List Value)}{a:List Value}(L:ρ j= .slice (some ⟨b,0,none⟩) l.length cap)(hb:w0.heap.size<=b \/b∈X)(T:Bk w'.heap b a e)(M:l.length<=cap)(hc:cap<=maxLen)(v:a.length=cap*sz)(hl:∀x∈l,x.length=sz)(D:css.length=l.length)(E:∀us∈css,us.length=sz)
  (d:∀(i:Nat) (us:List Value) x,css[i]?=some us ->l[i]?=some x ->∀(j:Nat) y u,x[j]?=some y ->us[j]?=some u ->u.oneCell'=true/\RV C y u)
  {ys:List PV} {us:List Value} (hi:i<l.length) (F:ys.length=sz) (H:us.length=sz) (I:∀(j:Nat) y u,ys[j]?=some y ->us[j]?=some u ->u.oneCell'=true/\RV C y u) (N:a.take (l.length*sz)=(css.set i us).flatten):
  RE w0.heap.size X (A.upd wr wm) C ρ w' j (.rw e sz (l.set i ys)):=by
 have m:∀z∈css.set i us,z.length=sz:=λz U=>by
  rcases List.mem_or_eq_of_mem_set U with h|rfl
  ·exact E z h
  ·exact H
 refine⟨css.set i us,⟨⟨?_,.inr ⟨b,cap,a.toArray,by rw[List.length_set];exact L,KV _,T,by rw[List.length_set];exact M,hc,by simpa using v,by rw[List.length_set];exact N⟩⟩,λg O=>by
  rw[L]at O;obtain rfl:=JB O;exact hb⟩,λx r=>?_,by rw[List.length_set,List.length_set];exact D,λq V x t r=>?_⟩
 ·rw[List.length_set,<- N,VJ,v]
  exact Nat.min_eq_left (Nat.mul_le_mul_right _ M)
 ·rcases List.mem_or_eq_of_mem_set r with h|rfl
  ·exact hl x h
  ·exact F
 ·refine⟨m _ (JQ t),?_⟩
  rw[List.getElem?_set]at t r
  by_cases S:i=q
  ·subst S
   rw[KX rfl,KX Uo]at t;rw[KX rfl,KX hi]at r;obtain rfl:=JB t;obtain rfl:=JB r;exact I
  ·rw[KY S]at t r
   exact d q V x t r
section
variable(P:Program)(τ:Tau)(n:Nat)(o:Oper)(A:AS)(k:Kk)
def yW(T:Nat)(a b:AV):Prop:=match a with
 | .c (.rp j sz i off)=>match look A.m j with
  |some (.rw e sz' l)=>match Nat.beq sz' sz with
   |true=>match look τ.ones T with
    |some _=>match b with
     | .c (.p y)=>match y.one,Nat.ble (off+1) sz with
      |true,true=>pR l i λx=>fin n o.dst (.c (.p (.raw undef))) λwr=>k wr [(j,.rw e sz (l.set i (x.set off y)))] []
      |_,_=>False
     |_=>False
    |none=>match look τ.tab T,rW b,off with
     |some (_,z),some ys,0=>match Nat.beq ys.length z.length,Nat.beq ys.length sz,ys.all PV.one,Nat.ble 1 sz with
      |true,true,true,true=>pR l i λ_=>fin n o.dst (.c (.p (.raw undef))) λwr=>k wr [(j,.rw e sz (l.set i ys))] []
      |_,_,_,_=>False
     |_,_,_=>False
   |false=>False
  |_=>False
 |a=>yz τ n o A k T a b
end
theorem Kn{T:Nat}{x y:Operand}{a b:AV}(ho:o.op= .store T x y)(ha:ao A x=some a)(a0:Lv A a.refs)(hb:ao A y=some b)(a1:Lv A b.refs)(h:yW τ n o A k T a b):cv w0 X C0 P τ n o A k:=by
 have W:x∈av' o.op:=by rw[ho];simp[av']
 have a6:y∈av' o.op:=by rw[ho];simp[av']
 unfold yW at h;split at h
 ·rename_i j sz i Y
  split at h
  ·rename_i e d l hm
   split at h
   ·rename_i b0
    obtain rfl:=QJ b0;split at h
    ·rename_i t1 a2
     split at h
     ·rename_i z
      split at h
      ·rename_i F a7
       have a7:=QX a7
       replace h:=h.go
       obtain⟨xs,L,h⟩:=h;have M:=aL L;obtain⟨wr,hk,hw,N⟩:=kC h;refine⟨wr,_,[],hk,λA' s w K kp hA _ H hK=>?_⟩;obtain⟨C,ρ,H⟩:=H;have O:=hA.at (by rw[ho];rfl) W ha (by simp[AV.refs,AC.refs]) hm;obtain⟨_,v,hv,q,n',c',m,rfl⟩:=H.op hA W ha a0;obtain⟨_,u,hu,D⟩:=H.op hA a6 hb a1;have D:RV C z u:=D;have a8:=D.one F;obtain⟨b,a3,E,a9,g1,g2,g3,g4,g5,g6,g7,g8,g9,I,Z⟩:=H.row_at O M Uo;rw[g1]at m;injection m with m
       injection m with m
       injection m with m
       subst m;have S:E[i]?=some E[i]:=gE;have b1:=I _ (JQ S);have b2:=g8 xs (JQ L);have b3:i*d+Y<l.length*d:=by
        have:(i+1)*d<=l.length*d:=Nat.mul_le_mul_right _ Uo;rw[Nat.add_mul]at this;omega
       have a':l.length*d<=a3*d:=Nat.mul_le_mul_right _ g4;unfold aW;simp only[ho];refine be hv (be hu ?_);simp only[a2];refine Go.Wx.st g3 Uo a8 λw' a4 b4 a5=>N s _ _ λs' h1 h2 h3=>hK s' w' ⟨C,ρ,H.modRw O (by rw[g1];rfl) a5 (Ek (us:=E[i].set Y u) g1 g2 a4 g4 g5 (by rw[List.length_set];exact g6) g8 g9 I Z M (by rw[List.length_set];exact b2) (by rw[List.length_set];exact b1) (λr y' u' hy U=>?_) ?_) (λt a V=>⟨_,h1 t a V,by have:=hw t a V;subst this;exact RV.raw _⟩) h2⟩ h3
       ·rw[List.getElem?_set]at hy U
        by_cases e1:Y=r
        ·subst e1
         rw[KX rfl,KX Uo]at hy U;obtain rfl:=JB hy;obtain rfl:=JB U;exact⟨a8,D⟩
        ·rw[KY e1]at hy U
         exact Z i _ xs S L r y' u' hy U
       ·rw[Cr E I i Y _ u S Uo,<- g7,List.take_set]
      ·exact h.elim
     ·exact h.elim
    ·rename_i a2
     split at h
     ·rename_i fs z ys hz b5
      split at h
      ·rename_i q1 q2 q3 q4
       have q1:=QJ q1;have q2:=QJ q2;have q4:=QX q4
       replace h:=h.go
       obtain⟨xs,L,h⟩:=h;have M:=aL L;obtain⟨wr,hk,hw,N⟩:=kC h;refine⟨wr,_,[],hk,λA' s w K kp hA _ H hK=>?_⟩;obtain⟨C,ρ,H⟩:=H;have O:=hA.at (by rw[ho];rfl) W ha (by simp[AV.refs,AC.refs]) hm;obtain⟨_,v,hv,q,n',c',m,rfl⟩:=H.op hA W ha a0;obtain⟨_,u,hu,D⟩:=H.op hA a6 hb a1;have D:RV C (.agg ys) u:=Kl b5 D;obtain⟨b,a3,E,a9,g1,g2,g3,g4,g5,g6,g7,g8,g9,I,Z⟩:=H.row_at O M q4;rw[g1]at m;injection m with m
       injection m with m
       injection m with m
       subst m;have S:E[i]?=some E[i]:=gE;have b3:i*d+d<=l.length*d:=by
        have:(i+1)*d<=l.length*d:=Nat.mul_le_mul_right _ Uo
        rwa [Nat.succ_mul]at this
       have a':l.length*d<=a3*d:=Nat.mul_le_mul_right _ g4;cases D with
       |agg _ us hl hh=>
        have F:∀(r:Nat) y u,ys[r]?=some y ->us[r]?=some u ->u.oneCell'=true/\RV C y u:=λr y u hy hu=>⟨(hh r y u hy hu).one (List.all_eq_true.1 q3 y (JQ hy)),hh r y u hy hu⟩
        unfold aW;simp only[ho];refine be hv (be hu ?_);have e1:Nat.beq us.toArray.toList.length z.length=true:=by simp only[];rw[hl,q1];exact Nat.beq_refl _
        simp only[a2,hz,e1,Nat.add_zero];refine Km g3 Uo (λv hv=>?_) λw' a4 b4 a5=>N s _ _ λs' h1 h2 h3=>hK s' w' ⟨C,ρ,H.modRw O (by rw[g1];rfl) a5 (Ek (us:=us) g1 g2 a4 g4 g5 ?_ g8 g9 I Z M q2 Uo F ?_) (λt a V=>⟨_,h1 t a V,by have:=hw t a V;subst this;exact RV.raw _⟩) h2⟩ h3
        ·obtain⟨r,hr⟩:=JH hv
         have b6:=aL hr;exact(F r _ v (gE) hr).1
        ·simp only[JK,VJ,VK]
         omega
        ·rw[Ej E I i _ us S Uo,<- g7,List.take_take,List.drop_take,show us.length=d by omega]
         rw[List.take_append,List.take_take,VJ,List.take_append,show min (l.length*d) (i*d)=i*d by omega,show min (i*d) a9.length=i*d by omega,show us.length=d by omega];rw[show min (i*d) (l.length*d)=i*d by omega,JG (l:=us) Uo]
         congr 2
         rw[show l.length*d-i*d-d=l.length*d-(i*d+d) by omega]
      ·exact h.elim
     ·exact h.elim
   ·exact h.elim
  ·exact h.elim
 ·exact JR ho ha a0 hb a1 h
end
def Ko(A:AS)(aes:List AV):Option (List PV):=match aes with
 |[]=>none
 |a::_=>match a with
  | .c (.ptr j _)=>match look A.m j with
   |some (.st _ _ cs)=>jv cs
   |_=>none
  |_=>none
def El(A:AS)(x:Option Operand)(k:Option AV ->Prop):Prop:=match x with
 |none=>k none
 |some y=>rd A y λa=>k (some a)
structure rY(P:Program)(T:Nat)(j:IntKind)(e:Int)(k:Prop):Prop where
 go:(∀w,(Instr.makeInterface T (.agg #[.int j e])).run P w= .ok (.iface T (.agg #[.int j e])) w)/\k
section
variable(P:Program)(τ:Tau)(n:Nat)
def yX(o:Oper)(k:Kk)(T:Nat)(a:AV):Prop:=match a with
 | .agg cs=>match cs with
  |[.p (.int j e)]=>rY P T j e (out n o k (.c (.p (.raw (.iface T (.agg #[.int j e]))))))
  |_=>False
 |_=>False
def V1(o:Oper)(A:AS)(k:Kk)(pn:List PanicEntry ->List Nat ->Prop):Prop:=match o.op with
 | .move x=>rd A x λa=>out n o k (unp a)
 | .assign x=>rd A x λa=>out n o k (unp a)
 | .pick c x y=>rd A c λa=>match a with
  | .c (.p (.bool t))=>Br t (rd A x λb=>out n o k b) (rd A y λb=>out n o k b)
  |_=>False
 | .alloc T=>yw τ n o A k T
 | .box T x=>rd A x λa=>yx n o A k T a
 | .build T ps=>yc A ps.toList λaes=>yy τ n o A k T aes
 | .buildSlice T len ps=>yc A ps.toList λaes=>yD τ n o A k T len aes
 | .load T x=>rd A x λa=>yg τ n o A k T a
 | .store T x y=>rd A x λa=>rd A y λb=>yW τ n o A k T a b
 | .binOp op T x y _=>rd A x λa=>rd A y λb=>yl P τ n o k op T x y a b
 | .unOp op _ x=>rd A x λa=>ym n o k op a
 | .convert src dst x=>rd A x λa=>yn τ n o k src dst a
 | .fieldAddr T x f=>rd A x λa=>yi τ n o k T f a
 | .field T x f=>rd A x λa=>yj τ n o k T f a
 | .indexAddr T x i=>rd A x λa=>rd A i λb=>yh τ n o A k T a b
 | .extract x i=>rd A x λa=>yk n o k i a
 | .slice T x lo hi mx=>match mx with
  |none=>rd A x λa=>El A lo λl=>El A hi λh=>yF τ n o A k T a l h
  |some _=>False
 | .makeSlice T x y=>rd A x λa=>rd A y λb=>yM τ n o A k T a b
 | .nilCheck x=>rd A x λa=>match a with
  | .c (.ptr j off)=>out n o k (.c (.ptr j off))
  |_=>False
 | .makeInterface T x=>rd A x λa=>yX P n o k T a
 | .makeFunc f us cs=>match us with
  |⟨[]⟩=>uC A cs.toList λaes=>yT n o k f aes
  |_=>False
 | .makeMap _ r=>match r with
  |none=>HI' n o k
  |some _=>False
 | .lookup T x i ok=>rd A x λa=>rd A i λb=>yU P n o A k T ok a b
 | .mapUpdate T m i x=>rd A m λa=>rd A i λb=>rd A x λc=>yV P n o A k T a b c
 | .panic x=>rd A x λa=>match a with
  | .c (.p (.raw (.iface t u)))=>pn [{v:=.iface t u,recovered:=false}] []
  |_=>False
 | .call c=>match c.callee with
  | .value f=>match f with
   | .func f=>uC A c.args.toList λaes=>gU P n o A k pn f aes (cM A aes) (cM A aes.tail) (Ko A aes)
   | .tmp t=>rd A (.tmp t) λa=>match a with
    | .c (.fn f ks)=>match pW A ks with
     |true=>uC A c.args.toList λaes=>gU P n o A k pn f (aes++jU ks) none none none
     |false=>False
    |_=>False
   |_=>False
  | .builtin b=>match b,c.args.toList,c.argTypes.toList with
   | .len,[x],[T]=>rd A x λa=>yp τ n o A k T a
   | .append,[x,y],[T,T']=>match look τ.slcs T' with
    |some _=>rd A x λa=>rd A y λb=>yE τ n o A k T a b
    |none=>rd A x λa=>rd A y λb=>yK τ n o A k T T' a b
   | .max,[x,y],_=>rd A x λa=>rd A y λb=>uL n o k true a b
   | .min,[x,y],_=>rd A x λa=>rd A y λb=>uL n o k false a b
   |_,_,_=>False
  |_=>False
 |_=>False
end
section
variable{w0:World}{X:List Nat}{C0:Mem}{P:Program}{τ:Tau}{n:Nat}{o:Oper}{A A':AS}{k:Kk}
theorem Kq{T:Nat}{x:Operand}{a:AV}(d:o.op= .makeInterface T x)(ha:ao A x=some a)(hl:Lv A a.refs)(h:yX P n o k T a):cv w0 X C0 P τ n o A k:=by
 unfold yX at h;split at h
 ·split at h
  ·rename_i j e
   obtain⟨i,h⟩:=h.go;refine dz h λA' s w C ρ l m=>?_;obtain⟨_,v,q,r,rfl,b,t⟩:=m.op l (x:=x) (by rw[d];simp[av']) ha hl
   match r,b with
   |[u],_=>
    have y:RV C (.int j e) u:=t 0 _ u rfl rfl;cases y;refine⟨.iface T (.agg #[.int j e]),λ_=>.raw _,λK D z=>?_⟩;unfold aW;simp only[d];refine be q ?_;unfold EvRun;exact⟨_,w,i w,z⟩
  ·exact h.elim
 ·exact h.elim
theorem Kr{b:List PanicEntry ->List Nat ->Prop}{x:Operand}{t:Nat}{u:Value}(d:o.op= .panic x)(ha:ao A x=some (.c (.p (.raw (.iface t u)))))(hl:Lv A (AV.c (.p (.raw (.iface t u)))).refs)(h:b [{v:=.iface t u,recovered:=false}] []):rC w0 X C0 P τ n o A k b:=by
 refine .inr ⟨_,_,h,λA' s w K q i ⟨C,ρ,e⟩ j=>?_⟩;obtain⟨_,v,l,a⟩:=e.op i (x:=x) (by rw[d];simp[av']) ha hl;have a:RV C (.raw (.iface t u)) v:=a;cases a;unfold aW;simp only[d];exact be l<|j w (e.kill (Kp.refl [] w) λz m=>by cases m)
theorem V1_snd{W:List PanicEntry ->List Nat ->Prop}(F:aU P τ)(h:V1 P τ n o A k W):rC w0 X C0 P τ n o A k W:=by
 unfold V1 at h;split at h
 ·rename_i x l
  obtain⟨a,j,u,d⟩:=bT h;exact .inl (DI (.inl l) j u d)
 ·rename_i x l
  obtain⟨a,j,u,d⟩:=bT h;exact .inl (DI (.inr l) j u d)
 ·rename_i c x y l
  obtain⟨a,j,u,d⟩:=bT h;split at d
  ·rename_i t
   rcases br_cases d with ⟨e,S⟩|⟨e,S⟩
   ·subst e
    obtain⟨b,D,E,v⟩:=bT S;exact .inl (DJ l j (by simpa using D) E v)
   ·subst e
    obtain⟨b,D,E,v⟩:=bT S;exact .inl (DJ l j (by simpa using D) E v)
  ·exact d.elim
 ·rename_i T l
  exact .inl (JM l h)
 ·rename_i T x l
  obtain⟨a,j,u,d⟩:=bT h;exact .inl (JN l j u d)
 ·rename_i T ps l
  obtain⟨H,j,u,d⟩:=tC' h;exact .inl (JO (JP A) l j d u)
 ·rename_i T len ps l
  obtain⟨H,j,u,d⟩:=tC' h;exact .inl (J0 l j d u)
 ·rename_i T x l
  obtain⟨a,j,u,d⟩:=bT h;exact .inl (Ju l j u d)
 ·rename_i T x y l
  obtain⟨a,j,u,d⟩:=bT h;obtain⟨b,D,E,v⟩:=bT d;exact .inl (Kn l j u D E v)
 ·rename_i op T x y q l
  obtain⟨a,j,u,d⟩:=bT h;obtain⟨b,D,E,v⟩:=bT d;exact .inl (Jz l j u D E v)
 ·rename_i op T x l
  obtain⟨a,j,u,d⟩:=bT h;exact .inl (Js l j u d)
 ·rename_i src a0 x l
  obtain⟨a,j,u,d⟩:=bT h;exact .inl (Jt l j u d)
 ·rename_i T x f l
  obtain⟨a,j,u,d⟩:=bT h;exact .inl (Jw l j u d)
 ·rename_i T x f l
  obtain⟨a,j,u,d⟩:=bT h;exact .inl (Jx l j u d)
 ·rename_i T x i l
  obtain⟨a,j,u,d⟩:=bT h;obtain⟨b,D,E,v⟩:=bT d;exact .inl (Jv l j u D E v)
 ·rename_i x i l
  obtain⟨a,j,u,d⟩:=bT h;exact .inl (Jr l j u d)
 ·rename_i T x lo Y mx l
  split at h
  ·obtain⟨a,j,u,d⟩:=bT h
   cases lo with
   |none=>
    cases Y with
    |none=>exact .inl (uN (lo:=none) (hi:=none) (la:=none) (ha:=none) F l j u VQ VQ d)
    |some z=>
     obtain⟨c,L,M,N⟩:=bT (show rd A z _ from d);exact .inl (uN (lo:=none) (hi:=some z) (la:=none) (ha:=some c) F l j u VQ ⟨L,M⟩ N)
   |some y=>
    obtain⟨b,D,E,v⟩:=bT (show rd A y _ from d);cases Y with
    |none=>exact .inl (uN (lo:=some y) (hi:=none) (la:=some b) (ha:=none) F l j u ⟨D,E⟩ VQ v)
    |some z=>
     obtain⟨c,L,M,N⟩:=bT (show rd A z _ from v);exact .inl (uN (lo:=some y) (hi:=some z) (la:=some b) (ha:=some c) F l j u ⟨D,E⟩ ⟨L,M⟩ N)
  ·exact h.elim
 ·rename_i T x y l
  obtain⟨a,j,u,d⟩:=bT h;obtain⟨b,D,E,v⟩:=bT d;exact .inl (J6 F l j u D E v)
 ·rename_i x l
  obtain⟨a,j,u,d⟩:=bT h;split at d
  ·exact .inl (Jq l j u d)
  ·exact d.elim
 ·rename_i T x l
  obtain⟨a,j,u,d⟩:=bT h;exact .inl (Kq l j u d)
 ·rename_i f us cs l
  split at h
  ·obtain⟨H,j,u,d⟩:=qH' h
   exact .inl (Ke l j d u)
  ·exact h.elim
 ·rename_i T r l
  split at h
  ·exact .inl (Kf l h)
  ·exact h.elim
 ·rename_i T x i ok l
  obtain⟨a,j,u,d⟩:=bT h;obtain⟨b,D,E,v⟩:=bT d;exact .inl (Kg l j u D E v)
 ·rename_i T m i x l
  obtain⟨a,j,u,d⟩:=bT h;obtain⟨b,D,E,v⟩:=bT d;obtain⟨c,L,M,N⟩:=bT v;exact .inl (Kh l j u D E L M N)
 ·rename_i x l
  obtain⟨a,j,u,d⟩:=bT h;split at d
  ·exact Kr l j u d
  ·exact d.elim
 ·rename_i c l
  split at h
  ·rename_i f Z
   split at h
   ·rename_i f'
    obtain⟨H,j,u,d⟩:=qH' h;exact Ki l Z j d u
   ·rename_i t
    obtain⟨a,D,E,v⟩:=bT h;split at v
    ·split at v
     ·rename_i U
      obtain⟨H,j,u,d⟩:=qH' v;exact Kj l Z D E U j d u
     ·exact v.elim
    ·exact v.elim
   ·exact h.elim
  ·rename_i b hb
   split at h
   ·rename_i x T I O
    obtain⟨a,j,u,d⟩:=bT h;exact .inl (JC l hb I O j u d)
   ·rename_i x y T T' I O
    split at h
    ·rename_i V
     obtain⟨a,j,u,d⟩:=bT h;obtain⟨b,D,E,v⟩:=bT d;exact .inl (J2 F l hb I (Array.ext' O) V j u D E v)
    ·obtain⟨a,j,u,d⟩:=bT h
     obtain⟨b,D,E,v⟩:=bT d;exact .inl (J3 F l hb I (Array.ext' O) j u D E v)
   ·rename_i x y I
    obtain⟨a,j,u,d⟩:=bT h;obtain⟨b,D,E,v⟩:=bT d;exact .inl (DT (mx:=true) l (by simpa using hb) I j u D E v)
   ·rename_i x y I
    obtain⟨a,j,u,d⟩:=bT h;obtain⟨b,D,E,v⟩:=bT d;exact .inl (DT (mx:=false) l (by simpa using hb) I j u D E v)
   ·exact h.elim
  ·exact h.elim
 ·exact h.elim
end
def tmpsOf:List Operand ->List Nat
 |[]=>[]
 | .tmp t::r=>t::tmpsOf r
 |_::r=>tmpsOf r
structure En where
 rs:List Nat
 rk:List Nat
 lk:List Nat
 wr:List (Nat×AV)
 wm:List (Nat×SE)
 F:List Nat
def yY(all:List Oper)(o:Oper):List Nat:=match o.guard with
 |none=>[]
 |some (j,_)=>match lj all j with
  |some d=>[d]
  |none=>[]
def lkOf(mv:Nat)(l:List Nat):List Nat:=match mv with
 |1=>l
 |_=>[]
def mkEn(all:List Oper)(o:Oper)(A:AS)(wr:List (Nat×AV))(wm:List (Nat×SE))(F:List Nat):En:=⟨yY all o++tmpsOf (av' o.op),rkOf A (ja' o.op) (refsOf A (av' o.op)),lkOf (ja' o.op) (refsOf A (av' o.op)),wr,wm,F⟩
def Al(A:AS)(k:Nat):Prop:=∃x,look A.m k=some x/\x.alive=true
def uX(k:Nat)(l:List (Nat×AV)):Bool:=List.rec (motive:=λ_=>Bool) true (λp _ ih=>match p.2.refs.elem k with
 |true=>false
 |false=>ih) l
def pX(k:Nat)(l:List (Nat×SE)):Bool:=List.rec (motive:=λ_=>Bool) true (λp _ ih=>match p.2.refs.elem k with
 |true=>false
 |false=>match Nat.beq p.1 k with
  |true=>match p.2.mut with
   |true=>false
   |false=>ih
  |false=>ih) l
def jV(A:AS)(F:List Nat):Bool:=List.rec (motive:=λ_=>Bool) true (λk _ ih=>match uX k A.e with
 |true=>match pX k A.m with
  |true=>ih
  |false=>false
 |false=>false) F
def nS(A:AS)(F:List Nat)(k:Prop):Prop:=match jV A F with
 |true=>k
 |false=>False
def VL(P:Program)(τ:Tau)(n:Nat)(all:List Oper)(K:List En ->AS ->Prop)(Q:List En ->List PanicEntry ->List Nat ->AS ->Prop)(l:List Oper):List En ->AS ->Prop:=
 List.rec (motive:=λ_=>List En ->AS ->Prop) (λes A=>K es A) (λo _ ih es A=>match o.guard with
  |none=>V1 P τ n o A (λwr wm F=>nS A F (ih (mkEn all o A wr wm F::es) (A.upd wr wm))) (λch ks=>Q (mkEn all o A [] [] []::es) ch ks A)
  |some (j,want)=>match lj all j with
   |none=>False
   |some d=>match look A.e d with
    |some (.c (.p (.bool c)))=>match want with
     |true=>Br c (V1 P τ n o A (λwr wm F=>nS A F (ih (mkEn all o A wr wm F::es) (A.upd wr wm))) (λch ks=>Q (mkEn all o A [] [] []::es) ch ks A)) (fin n o.dst (.c (.p (.raw undef))) λwr=>ih (mkEn all o A wr [] []::es) (A.upd wr []))
     |false=>Br c (fin n o.dst (.c (.p (.raw undef))) λwr=>ih (mkEn all o A wr [] []::es) (A.upd wr [])) (V1 P τ n o A (λwr wm F=>nS A F (ih (mkEn all o A wr wm F::es) (A.upd wr wm))) (λch ks=>Q (mkEn all o A [] [] []::es) ch ks A))
    |some (.c (.p (.raw (.tuple _))))=>fin n o.dst (.c (.p (.raw undef))) λwr=>ih (mkEn all o A wr [] []::es) (A.upd wr [])
    |_=>False) l
def mH(w0:World)(X:List Nat)(C0:Mem)(P:Program)(τ:Tau)(n:Nat)(all:List Oper)(o:Oper)(A:AS)(e:En):Prop:=
 ∀A' s w (K:St ->World ->Prop) (kp:List PanicEntry ->St ->World ->Prop),(∀t∈e.rs,look A'.e t=look A.e t) ->(∀k∈e.rk,look A'.m k=look A.m k) ->(∀k∈e.lk,Al A k ->Al A' k) ->(∀k∈e.F,NoRef k A') ->Rep w0 X C0 A' s w ->(∀s' w',Rep w0 X C0 (A'.upd e.wr e.wm) s' w' ->s'.d=s.d ->K s' w') ->fY P τ n all K kp [o] s w
def lG(w0:World)(X:List Nat)(C0:Mem)(P:Program)(τ:Tau)(n:Nat)(all:List Oper):List Oper ->AS ->List En ->AS ->Prop
 |[],A,[],B=>A=B
 |o::l,A,e::es,B=>(mH w0 X C0 P τ n all o A e/\jV A e.F=true)/\lG w0 X C0 P τ n all l (A.upd e.wr e.wm) es B
 |_,_,_,_=>False
def rZ(w0:World)(X:List Nat)(C0:Mem)(P:Program)(τ:Tau)(n:Nat)(all:List Oper)(o:Oper)(A:AS)(e:En)(ch:List PanicEntry)(ks:List Nat):Prop:=
 ∀A' s w (K:St ->World ->Prop) (kp:List PanicEntry ->St ->World ->Prop),(∀t∈e.rs,look A'.e t=look A.e t) ->(∀k∈e.rk,look A'.m k=look A.m k) ->(∀k∈e.lk,Al A k ->Al A' k) ->Rep w0 X C0 A' s w ->(∀s' w',Rep w0 X C0 (A'.upd [] (dk ks)) s' w' ->s'.d=s.d ->kp ch s' w') ->fY P τ n all K kp [o] s w
def o3(w0:World)(X:List Nat)(C0:Mem)(P:Program)(τ:Tau)(n:Nat)(all:List Oper):List Oper ->AS ->List En ->En ->List PanicEntry ->List Nat ->AS ->Prop
 |o::l,A,[],e,ch,ks,B=>rZ w0 X C0 P τ n all o A e ch ks/\e.wr=[]/\e.wm=[]/\A=B
 |o::l,A,f::fs,e,ch,ks,B=>(mH w0 X C0 P τ n all o A f/\jV A f.F=true)/\o3 w0 X C0 P τ n all l (A.upd f.wr f.wm) fs e ch ks B
 |[],_,_,_,_,_,_=>False
section
variable{w0:World}{X:List Nat}{C0:Mem}{P:Program}{τ:Tau}{n:Nat}{all:List Oper}{o:Oper}{A A':AS}{k:Kk}
theorem la':∀{l:List Operand} {t:Nat},Operand.tmp t∈l ->t∈tmpsOf l
 |x::r,t,h=>by
  rcases List.mem_cons.1 h with h|h
  ·subst h
   simp[tmpsOf]
  ·have:=la' h
   cases x<;>simp[tmpsOf,this]
theorem uY{mv:Nat}{l:List Operand}(h1:∀t∈tmpsOf l,look A'.e t=look A.e t)(h2:∀k∈rkOf A mv (refsOf A l),look A'.m k=look A.m k)(h3:∀k∈lkOf mv (refsOf A l),Al A k ->Al A' k):Agr mv A A' l:=by
 have i:Nat.beq mv 1=false ->∀k∈refsOf A l,look A'.m k=look A.m k:=λe k b=>by
  refine h2 k ?_;unfold rkOf;split
  ·cases e
  ·exact QW _ b
  ·exact b
 refine⟨λx d=>?_,λe x d a h k b=>i e k (oQ d h k b),λe k b=>h2 k (by subst e;exact b),λx d a h j k b=>?_⟩
 ·cases x with
  |tmp t=>exact h1 t (la' d)
  |_=>rfl
 ·by_cases e:mv=1
  ·subst e
   exact h3 k (oQ d h k b) (j k b)
  ·rw[i (by
    cases hb:Nat.beq mv 1 with
    |false=>rfl
    |true=>exact absurd (QJ hb) e) k (oQ d h k b)]
   exact j k b
theorem yZ{e:En}{wr:List (Nat×AV)}{wm:List (Nat×SE)}{F:List Nat}(he:e=mkEn all o A wr wm F)(b:Tri w0 X C0 P τ n o A wr wm F)(A':AS)(s:St)(w:World)(K:St ->World ->Prop)(kp:List PanicEntry ->St ->World ->Prop)(h1:∀t∈e.rs,look A'.e t=look A.e t)(h2:∀k∈e.rk,look A'.m k=look A.m k)(a:∀k∈e.lk,Al A k ->Al A' k)(h3:∀k∈e.F,NoRef k A')(d:Rep w0 X C0 A' s w)(h:∀s' w',Rep w0 X C0 (A'.upd e.wr e.wm) s' w' ->s'.d=s.d ->K s' w'):aW P τ n o s w K kp:=by
 subst he;exact b A' s w K kp (uY (λt i=>h1 t (QV _ i)) h2 a) h3 d h
theorem y5{e:En}{wr:List (Nat×AV)}(a:∀(s:St) (v:Value) (Q:St ->Prop),(∀s',(∀t b,look wr t=some b ->get s'.e t=some v) ->(∀t,look wr t=none ->get s'.e t=get s.e t) ->s'.d=s.d ->Q s') ->put n s o.dst v Q)(i:∀t b,look wr t=some b ->b= .c (.p (.raw undef)))(he:e.wr=wr/\e.wm=[])(A':AS)(s:St)(w:World)(K:St ->World ->Prop)(d:Rep w0 X C0 A' s w)(h:∀s' w',Rep w0 X C0 (A'.upd e.wr e.wm) s' w' ->s'.d=s.d ->K s' w'):put n s o.dst undef λs'=>K s' w:=by
 rw[he.1,he.2]at h;obtain⟨C,ρ,d⟩:=d;refine a s undef _ λs' j l m=>h s' w ⟨C,ρ,d.slots (λt b hb _=>⟨_,j t b hb,?_⟩) l⟩ m;have:=i t b hb;subst this;exact RV.raw _
theorem y6{s:St}{w:World}{d:Nat}{c:Bool}(b:Rep w0 X C0 A' s w)(l:look A'.e d=some (.c (.p (.bool c)))):get s.e d=some (.bool c)/\Rep w0 X C0 A' ⟨(d,.bool c)::s.e,s.d⟩ w:=by
 obtain⟨C,ρ,b⟩:=b;obtain⟨v,j,e⟩:=b.slot d _ l (λk m=>by cases m);have e:RV C (.bool c) v:=e;cases e;refine⟨j,C,ρ,⟨λt a q r=>?_,b.ent,b.sep,b.off,b.sub,b.c0,b.cn,b.kp⟩⟩;obtain⟨v,h,u⟩:=b.slot t a q r;refine⟨v,?_,u⟩;rw[eQ];cases i:Nat.beq d t with
 |true=>
  obtain rfl:=QJ i;rw[j]at h
  simpa using h
 |false=>exact h
theorem VL_ok(T:aU P τ){K:List En ->AS ->Prop}{Q:List En ->List PanicEntry ->List Nat ->AS ->Prop}:∀{l:List Oper} {es:List En} {A:AS},VL P τ n all K Q l es A ->(∃fs B,lG w0 X C0 P τ n all l A fs B/\K (fs.reverse++es) B) \/∃fs e ch ks B,o3 w0 X C0 P τ n all l A fs e ch ks B/\Q (e::(fs.reverse++es)) ch ks B
 |[],es,A,h=>.inl ⟨[],A,rfl,h⟩
 |o::l,es,A,h=>by
  have goV:∀{g:Prop},(V1 P τ n o A (λwr wm F=>nS A F (VL P τ n all K Q l (mkEn all o A wr wm F::es) (A.upd wr wm))) (λch ks=>Q (mkEn all o A [] [] []::es) ch ks A)) ->(∀wr wm F,Tri w0 X C0 P τ n o A wr wm F ->mH w0 X C0 P τ n all o A (mkEn all o A wr wm F)) ->(∀ch ks,yv w0 X C0 P τ n o A ch ks ->rZ w0 X C0 P τ n all o A (mkEn all o A [] [] []) ch ks) ->(∃fs B,lG w0 X C0 P τ n all (o::l) A fs B/\K (fs.reverse++es) B) \/∃fs e ch ks B,o3 w0 X C0 P τ n all (o::l) A fs e ch ks B/\Q (e::(fs.reverse++es)) ch ks B:=λh y a0=>by
   rcases V1_snd (w0:=w0) (X:=X) (C0:=C0) T h with ⟨wr,wm,F,i,u⟩|⟨ch,ks,i,u⟩
   ·unfold nS at i
    split at i
    ·rename_i Z
     rcases VL_ok T i with ⟨fs,B,D,U⟩|⟨fs,e,ch,ks,B,D,U⟩
     ·exact .inl ⟨mkEn all o A wr wm F::fs,B,⟨⟨y _ _ _ u,Z⟩,D⟩,by simpa using U⟩
     ·exact .inr ⟨mkEn all o A wr wm F::fs,e,ch,ks,B,⟨⟨y _ _ _ u,Z⟩,D⟩,by simpa using U⟩
    ·exact i.elim
   ·exact .inr ⟨[],_,ch,ks,A,⟨a0 ch ks u,rfl,rfl,rfl⟩,i⟩
  have V:(fin n o.dst (.c (.p (.raw undef))) λwr=>VL P τ n all K Q l (mkEn all o A wr [] []::es) (A.upd wr [])) ->(∀wr,(∀t b,look wr t=some b ->b= .c (.p (.raw undef))) ->(∀(s:St) (v:Value) (Q:St ->Prop),(∀s',(∀t b,look wr t=some b ->get s'.e t=some v) ->(∀t,look wr t=none ->get s'.e t=get s.e t) ->s'.d=s.d ->Q s') ->put n s o.dst v Q) ->mH w0 X C0 P τ n all o A (mkEn all o A wr [] [])) ->(∃fs B,lG w0 X C0 P τ n all (o::l) A fs B/\K (fs.reverse++es) B) \/∃fs e ch ks B,o3 w0 X C0 P τ n all (o::l) A fs e ch ks B/\Q (e::(fs.reverse++es)) ch ks B:=λh y=>by
   obtain⟨wr,i,u,D⟩:=kC h;rcases VL_ok T i with ⟨fs,B,U,h5⟩|⟨fs,e,ch,ks,B,U,h5⟩
   ·exact .inl ⟨mkEn all o A wr [] []::fs,B,⟨⟨y wr u D,rfl⟩,U⟩,by simpa using h5⟩
   ·exact .inr ⟨mkEn all o A wr [] []::fs,e,ch,ks,B,⟨⟨y wr u D,rfl⟩,U⟩,by simpa using h5⟩
  have h:(match o.guard with
   |none=>V1 P τ n o A (λwr wm F=>nS A F (VL P τ n all K Q l (mkEn all o A wr wm F::es) (A.upd wr wm))) (λch ks=>Q (mkEn all o A [] [] []::es) ch ks A)
   |some (j,r)=>match lj all j with
    |none=>False
    |some d=>match look A.e d with
     |some (.c (.p (.bool c)))=>match r with
      |true=>Br c (V1 P τ n o A (λwr wm F=>nS A F (VL P τ n all K Q l (mkEn all o A wr wm F::es) (A.upd wr wm))) (λch ks=>Q (mkEn all o A [] [] []::es) ch ks A)) (fin n o.dst (.c (.p (.raw undef))) λwr=>VL P τ n all K Q l (mkEn all o A wr [] []::es) (A.upd wr []))
      |false=>Br c (fin n o.dst (.c (.p (.raw undef))) λwr=>VL P τ n all K Q l (mkEn all o A wr [] []::es) (A.upd wr [])) (V1 P τ n o A (λwr wm F=>nS A F (VL P τ n all K Q l (mkEn all o A wr wm F::es) (A.upd wr wm))) (λch ks=>Q (mkEn all o A [] [] []::es) ch ks A))
     |some (.c (.p (.raw (.tuple _))))=>fin n o.dst (.c (.p (.raw undef))) λwr=>VL P τ n all K Q l (mkEn all o A wr [] []::es) (A.upd wr [])
     |_=>False):=h
  split at h
  ·rename_i y
   refine goV (g:=True) h (λwr wm F x A' s w K H i u m D E z=>?_) (λch ks x A' s w K H i u m E z=>?_)
   ·rw[mp]
    simp only[y];exact yZ rfl x A' s w _ H i u m D E z
   ·rw[mp]
    simp only[y];exact x A' s w _ H (uY (λt ht=>i t (QV _ ht)) u m) E λw' I=>z s w' I rfl
  ·rename_i j r y
   split at h
   ·exact h.elim
   ·rename_i d Y
    split at h
    ·rename_i c hc
     have L:∀wr wm F,d∈(mkEn all o A wr wm F).rs:=λwr wm F=>by simp[mkEn,yY,y,Y]
     have run:∀(a:Bool) {wr wm F},r=a ->c=a ->Tri w0 X C0 P τ n o A wr wm F ->mH w0 X C0 P τ n all o A (mkEn all o A wr wm F):=λa wr wm F e1 e2 x A' s w K H i u m D E z=>by
      subst e1;have q:=i d (L wr wm F);rw[hc]at q;obtain⟨q1,M⟩:=y6 E q;rw[mp];simp only[y,Y,q1];obtain⟨e0,ds⟩:=s;subst e2;cases c with
      |true=>exact tW rfl (yZ rfl x A' _ w _ H i u m D M z)
      |false=>exact tX rfl (yZ rfl x A' _ w _ H i u m D M z)
     have N:∀(a:Bool) {ch ks},r=a ->c=a ->yv w0 X C0 P τ n o A ch ks ->rZ w0 X C0 P τ n all o A (mkEn all o A [] [] []) ch ks:=λa ch ks e1 e2 x A' s w K H i u m E z=>by
      subst e1;have q:=i d (L [] [] []);rw[hc]at q;obtain⟨q1,M⟩:=y6 E q;rw[mp];simp only[y,Y,q1];obtain⟨e0,ds⟩:=s;subst e2;cases c with
      |true=>exact tW rfl (x A' _ w _ H (uY (λt ht=>i t (QV _ ht)) u m) M λw' I=>z _ w' I rfl)
      |false=>exact tX rfl (x A' _ w _ H (uY (λt ht=>i t (QV _ ht)) u m) M λw' I=>z _ w' I rfl)
     have skip:∀(a:Bool) {wr},r=a ->c= !a ->(∀t b,look wr t=some b ->b= .c (.p (.raw undef))) ->(∀(s:St) (v:Value) (Q:St ->Prop),(∀s',(∀t b,look wr t=some b ->get s'.e t=some v) ->(∀t,look wr t=none ->get s'.e t=get s.e t) ->s'.d=s.d ->Q s') ->put n s o.dst v Q) ->mH w0 X C0 P τ n all o A (mkEn all o A wr [] []):=λa wr e1 e2 O S A' s w K H i u m D E z=>by
      subst e1;have q:=i d (L wr [] []);rw[hc]at q;obtain⟨q1,M⟩:=y6 E q;rw[mp];simp only[y,Y,q1];obtain⟨e0,ds⟩:=s;subst e2;cases r with
      |true=>exact tX rfl (y5 S O ⟨rfl,rfl⟩ A' _ w K M z)
      |false=>exact tW rfl (y5 S O ⟨rfl,rfl⟩ A' _ w K M z)
     split at h
     ·rcases br_cases h with ⟨e,h⟩|⟨e,h⟩
      ·exact goV (g:=True) h (λwr wm F x=>run true rfl e x) λch ks x=>N true rfl e x
      ·exact V h λwr O S=>skip true rfl (by simpa using e) O S
     ·rcases br_cases h with ⟨e,h⟩|⟨e,h⟩
      ·exact V h λwr O S=>skip false rfl (by simpa using e) O S
      ·exact goV (g:=True) h (λwr wm F x=>run false rfl e x) λch ks x=>N false rfl e x
    ·rename_i vs hc
     refine V h λwr O S A' s w K H i u m D E z=>?_;have q:=i d (by simp[mkEn,yY,y,Y]);rw[hc]at q;rw[mp];simp only[y,Y];have W:=E;obtain⟨C,ρ,W⟩:=W;obtain⟨v,hv,hr⟩:=W.slot d _ q (λk hk=>by cases hk);have hr:RV C (.raw (.tuple vs)) v:=hr;cases hr;rw[hv];exact y5 S O ⟨rfl,rfl⟩ A' s w K E z
    ·exact h.elim
theorem Em{k:Nat}:∀{l:List (Nat×AV)},uX k l=true ->∀p∈l,k ∉ p.2.refs
 |q::r,h,p,a=>by
  have h:(match q.2.refs.elem k with
   |true=>false
   |false=>uX k r)=true:=h
  split at h
  ·cases h
  ·rename_i b
   rcases List.mem_cons.1 a with rfl|a
   ·intro d
    rw[List.elem_eq_true_of_mem d]at b;cases b
   ·exact Em h p a
theorem Eo{k:Nat}:∀{l:List (Nat×SE)},pX k l=true ->∀p∈l,k ∉ p.2.refs/\(p.1=k ->p.2.mut=false)
 |q::r,h,p,a=>by
  have h:(match q.2.refs.elem k with
   |true=>false
   |false=>match Nat.beq q.1 k with
    |true=>match q.2.mut with
     |true=>false
     |false=>pX k r
    |false=>pX k r)=true:=h
  split at h
  ·cases h
  ·rename_i b
   have d:pX k r=true/\(q.1=k ->q.2.mut=false):=by
    split at h
    ·split at h
     ·cases h
     ·rename_i i
      exact⟨h,λ_=>i⟩
    ·rename_i hb
     exact⟨h,λe=>by rw[e,Nat.beq_refl]at hb;cases hb⟩
   rcases List.mem_cons.1 a with rfl|a
   ·refine⟨λj=>?_,d.2⟩
    rw[List.elem_eq_true_of_mem j]at b;cases b
   ·exact Eo d.1 p a
theorem tV':∀{F:List Nat},jV A F=true ->∀k∈F,(∀p∈A.e,k ∉ p.2.refs)/\∀p∈A.m,k ∉ p.2.refs/\(p.1=k ->p.2.mut=false)
 |j::r,h,k,a=>by
  have h:(match uX j A.e with
   |true=>match pX j A.m with
    |true=>jV A r
    |false=>false
   |false=>false)=true:=h
  split at h
  ·rename_i b
   split at h
   ·rename_i d
    rcases List.mem_cons.1 a with rfl|a
    ·exact⟨Em b,Eo d⟩
    ·exact tV' h k a
   ·cases h
  ·cases h
theorem r7{F:List Nat}(h:jV A F=true):∀k∈F,NoRef k A:=λk e=>by
 obtain⟨i,d⟩:=tV' h k e;exact⟨λt a l=>i _ (dm l),λj x b=>(d _ (dm b)).1,λx b=>(d _ (dm b)).2 rfl⟩
theorem Er{K:St ->World ->Prop}{kp:List PanicEntry ->St ->World ->Prop}:∀{l:List Oper} {A:AS} {es:List En} {B:AS} {s:St} {w:World},lG w0 X C0 P τ n all l A es B ->Rep w0 X C0 A s w ->(∀s' w',Rep w0 X C0 B s' w' ->s'.d=s.d ->K s' w') ->fY P τ n all K kp l s w
 |[],A,[],B,s,w,h,b,d=>by
  have h:A=B:=h;subst h;exact d s w b rfl
 |o::l,A,e::es,B,s,w,h,b,d=>by
  obtain⟨⟨r,t⟩,u⟩:=h;have:=r A s w (λs' w'=>fY P τ n all K kp l s' w') kp (λ_ _=>rfl) (λ_ _=>rfl) (λ_ _ h=>h) (r7 t) b λs' w' i v=>Er u i λj m a q=>d j m a (q.trans v);exact this
 |[],_,_::_,_,_,_,h,_,_=>h.elim
 |_::_,_,[],_,_,_,h,_,_=>h.elim
theorem Es{K:St ->World ->Prop}{kp:List PanicEntry ->St ->World ->Prop}{ch:List PanicEntry}{ks:List Nat}{B:AS}:∀{l:List Oper} {A:AS} {es:List En} {e:En} {s:St} {w:World},o3 w0 X C0 P τ n all l A es e ch ks B ->Rep w0 X C0 A s w ->(∀s' w',Rep w0 X C0 (B.upd [] (dk ks)) s' w' ->s'.d=s.d ->kp ch s' w') ->fY P τ n all K kp l s w
 |o::l,A,[],e,s,w,h,b,d=>by
  obtain⟨h,_,_,rfl⟩:=h;exact h A s w (λs' w'=>fY P τ n all K kp l s' w') kp (λ_ _=>rfl) (λ_ _=>rfl) (λ_ _ h=>h) b d
 |o::l,A,f::x,e,s,w,h,b,d=>by
  obtain⟨⟨r,t⟩,u⟩:=h;exact r A s w (λs' w'=>fY P τ n all K kp l s' w') kp (λ_ _=>rfl) (λ_ _=>rfl) (λ_ _ h=>h) (r7 t) b λs' w' i v=>Es u i λj m a q=>d j m a (q.trans v)
end
def stD:List En ->(Nat ->Bool) ->Nat ->AS ->AS
 |[],_,_,A=>A
 |e::r,D,i,A=>stD r D (i+1) (match D i with
  |true=>A.upd e.wr e.wm
  |false=>A)
def gd{α:Type}(f:En ->List (Nat×α)):List En ->(Nat ->Bool) ->Nat ->Nat ->Option α ->Option α
 |[],_,_,_,d=>d
 |e::r,D,i,t,d=>gd f r D (i+1) t (match D i with
  |true=>match look (f e) t with
   |some x=>some x
   |none=>d
  |false=>d)
theorem pk':∀(es:List En) (D:Nat ->Bool) (i:Nat) (A:AS) (t:Nat),look (stD es D i A).e t=gd En.wr es D i t (look A.e t)
 |[],_,_,_,_=>rfl
 |e::r,D,i,A,t=>by
  simp only[stD,gd];rw[pk'];cases D i with
  |true=>
   simp only[AS.upd];rw[lC];cases look e.wr t<;>rfl
  |false=>rfl
theorem kE':∀(es:List En) (D:Nat ->Bool) (i:Nat) (A:AS) (t:Nat),look (stD es D i A).m t=gd En.wm es D i t (look A.m t)
 |[],_,_,_,_=>rfl
 |e::r,D,i,A,t=>by
  simp only[stD,gd];rw[kE'];cases D i with
  |true=>
   simp only[AS.upd];rw[lC];cases look e.wm t<;>rfl
  |false=>rfl
theorem r8{α:Type}{f:En ->List (Nat×α)}{D a:Nat ->Bool}{t:Nat}:∀(es:List En) (i:Nat) (d:Option α),(∀(j:Nat) e,es[j]?=some e ->look (f e) t≠none ->D (i+j)=a (i+j)) ->gd f es D i t d=gd f es a i t d
 |[],_,_,_=>rfl
 |e::r,i,d,h=>by
  simp only[gd];have l:(match D i with
   |true=>match look (f e) t with
    |some x=>some x
    |none=>d
   |false=>d)=(match a i with
   |true=>match look (f e) t with
    |some x=>some x
    |none=>d
   |false=>d):=by
   cases b:look (f e) t with
   |none=>cases D i<;>cases a i<;>rfl
   |some x=>
    have:=h 0 e rfl (by rw[b];simp);rw[Nat.add_zero]at this;rw[this]
  rw[l];exact r8 r (i+1) _ λj m q b=>by
   have:=h (j+1) m q b
   rwa [show i+(j+1)=i+1+j by omega]at this
theorem Et{α:Type}{f:En ->List (Nat×α)}{D:Nat ->Bool}{t:Nat}:∀(es:List En) (i:Nat) (d:Option α),(∀(j:Nat) e,es[j]?=some e ->D (i+j)=true ->look (f e) t=none) ->gd f es D i t d=d
 |[],_,_,_=>rfl
 |e::r,i,d,h=>by
  simp only[gd];rw[Et r (i+1) _ λj a he b=>h (j+1) a he (by rwa [show i+(j+1)=i+1+j by omega])];cases b:D i with
  |true=>
   have:=h 0 e rfl (by rwa [Nat.add_zero]);simp only[this]
  |false=>rfl
theorem y8{α:Type}{f:En ->List (Nat×α)}{D:Nat ->Bool}{t:Nat}{x:α}:∀(es:List En) (i p:Nat) (d:Option α) (e:En),es[p]?=some e ->D (i+p)=true ->look (f e) t=some x ->(∀(j:Nat) e,p<j ->es[j]?=some e ->D (i+j)=true ->look (f e) t=none) ->gd f es D i t d=some x
 |a::r,i,0,d,e,he,b,l,h=>by
  obtain rfl:=JB he;simp only[gd];rw[Et r (i+1) _ λj a he b=>h (j+1) a Uo he (by rwa [show i+(j+1)=i+1+j by omega])];rw[Nat.add_zero]at b;simp only[b,l]
 |a::r,i,p+1,d,e,he,b,l,h=>by
  simp only[gd];exact y8 r (i+1) p _ e he (by rwa [show i+1+p=i+(p+1) by omega]) l λj a m he b=>h (j+1) a Uo he (by rwa [show i+(j+1)=i+1+j by omega])
theorem valD_some{α:Type}{f:En ->List (Nat×α)}{D:Nat ->Bool}{t:Nat}{x:α}:∀(es:List En) (i:Nat) (d:Option α),gd f es D i t d=some x ->d=some x \/∃(j:Nat) (e:En),es[j]?=some e/\D (i+j)=true/\look (f e) t=some x
 |[],_,_,h=>.inl h
 |e::r,i,d,h=>by
  simp only[gd]at h;rcases valD_some r (i+1) _ h with h1|⟨j,b,h1,h2,h3⟩
  ·cases a:D i with
   |true=>
    rw[a]at h1;simp only at h1;cases hl:look (f e) t with
    |some y=>
     rw[hl]at h1;exact .inr ⟨0,e,rfl,by rwa [Nat.add_zero],by rw[hl];exact h1⟩
    |none=>rw[hl]at h1;exact .inl h1
   |false=>rw[a]at h1;exact .inl h1
  ·exact .inr ⟨j+1,b,h1,by rwa [show i+(j+1)=i+1+j by omega],h3⟩
theorem gW':∀(es:List En) (D:Nat ->Bool) (i:Nat) (A:AS),(∀j,i<=j ->D j=false) ->stD es D i A=A
 |[],_,_,_,_=>rfl
 |e::r,D,i,A,h=>by
  simp only[stD,h i (KJ i)];exact gW' r D (i+1) A λj a=>h j Uo
theorem lP':∀(es:List En) (D:Nat ->Bool) (i:Nat) (A:AS) (p:Nat×AV),(p∈A.e \/∃(j:Nat) (e:En),es[j]?=some e/\D (i+j)=true/\p∈e.wr) ->p∈(stD es D i A).e
 |[],_,_,A,p,h=>by
  rcases h with h|⟨j,e,h,_⟩
  ·exact h
  ·simp at h
 |e::r,D,i,A,p,h=>by
  simp only[stD];refine lP' r D (i+1) _ p ?_;rcases h with h|⟨j,a,h1,h2,h3⟩
  ·left
   cases D i with
   |true=>exact QV _ h
   |false=>exact h
  ·cases j with
   |zero=>
    obtain rfl:=JB h1;rw[Nat.add_zero]at h2;left;simp only[h2];exact QW _ h3
   |succ j=>exact .inr ⟨j,a,h1,by rwa [show i+1+j=i+(j+1) by omega],h3⟩
theorem gX':∀(es:List En) (D:Nat ->Bool) (i:Nat) (A:AS) (p:Nat×SE),(p∈A.m \/∃(j:Nat) (e:En),es[j]?=some e/\D (i+j)=true/\p∈e.wm) ->p∈(stD es D i A).m
 |[],_,_,A,p,h=>by
  rcases h with h|⟨j,e,h,_⟩
  ·exact h
  ·simp at h
 |e::r,D,i,A,p,h=>by
  simp only[stD];refine gX' r D (i+1) _ p ?_;rcases h with h|⟨j,a,h1,h2,h3⟩
  ·left
   cases D i with
   |true=>exact QV _ h
   |false=>exact h
  ·cases j with
   |zero=>
    obtain rfl:=JB h1;rw[Nat.add_zero]at h2;left;simp only[h2];exact QW _ h3
   |succ j=>exact .inr ⟨j,a,h1,by rwa [show i+1+j=i+(j+1) by omega],h3⟩
section
variable{w0:World}{X:List Nat}{C0:Mem}{P:Program}{τ:Tau}{n:Nat}{all:List Oper}{A B:AS}{s:St}{w:World}
theorem tX':∀(l:List Oper) (A B:AS) (es:List En),lG w0 X C0 P τ n all l A es B ->es.length=l.length:=by
 intro l
 induction l with
 |nil=>
  intro A B es h;cases es with
  |nil=>rfl
  |cons e es=>exact h.elim
 |cons o l a=>
  intro A B es h;cases es with
  |nil=>exact h.elim
  |cons e es=>simp[a _ _ _ h.2]
theorem zn':∀(l:List Oper) (A B:AS) (es:List En),lG w0 X C0 P τ n all l A es B ->∀(j i:Nat) o e,l[i]?=some o ->es[i]?=some e ->mH w0 X C0 P τ n all o (stD es (λq=>decide (q<j+i)) j A) e/\jV (stD es (λq=>decide (q<j+i)) j A) e.F=true:=by
 intro l
 induction l with
 |nil=>intro A B es h j i o e a b;simp at a
 |cons o l d=>
  intro A B es h j i m r a b;cases es with
  |nil=>exact h.elim
  |cons e es=>
   cases i with
   |zero=>
    obtain rfl:=JB a;obtain rfl:=JB b;rw[gW' _ _ _ _ λq u=>Uk];exact h.1
   |succ i=>
    have:=d _ _ _ h.2 (j+1) i m r a b;rw[show j+1+i=j+(i+1) by omega]at this;have t:stD (e::es) (λq=>decide (q<j+(i+1))) j A=stD es (λq=>decide (q<j+(i+1))) (j+1) (A.upd e.wr e.wm):=by
     simp only[stD];rw[KU (show j<j+(i+1) by omega)]
    rw[t];exact this
theorem AX':∀(l:List Oper) (A B:AS) (es:List En),lG w0 X C0 P τ n all l A es B ->∀(j:Nat) (D:Nat ->Bool),(∀i,i<l.length ->D (j+i)=true) ->B=stD es D j A:=by
 intro l
 induction l with
 |nil=>
  intro A B es h j D _;cases es with
  |nil=>exact(h:A=B).symm
  |cons e es=>exact h.elim
 |cons o l d=>
  intro A B es h j D a;cases es with
  |nil=>exact h.elim
  |cons e es=>
   have:=d _ _ _ h.2 (j+1) D λi m=>by
    have:=a (i+1) (by simpa using m)
    rwa [show j+(i+1)=j+1+i by omega]at this
   simp only[stD];have b:=a 0 Ud;rw[Nat.add_zero]at b;rw[b];exact this
theorem Rep.weak(h:Rep w0 X C0 A s w)(he:∀t a,look B.e t=some a ->look A.e t=some a)(hm:∀k x,look B.m k=some x ->look A.m k=some x):Rep w0 X C0 B s w:=by
 obtain⟨C,ρ,h⟩:=h;have m:∀l,Lv B l ->Lv A l:=λl q k d=>by
  obtain⟨x,r,z⟩:=q k d;exact⟨x,hm k x r,z⟩
 refine⟨C,ρ,λt a M q=>h.slot t a (he t a M) (m _ q),λk x d=>?_,λj k x y g D N E d F=>h.sep j k x y g D (hm j x N) E (hm k y d) F,λk x g b o v d=>h.off k x g b o v (hm k x d),h.sub,h.c0,h.cn,h.kp⟩;have:=h.ent k x (hm k x d);cases x with
 |st O T W=>
  obtain⟨b,S,r,z,U,V,H⟩:=this;exact⟨b,S,r,z,U,V,λi c u I L=>⟨(H i c u I L).1,λq=>(H i c u I L).2 (m _ q)⟩⟩
 |rw e Y l=>exact this
 |fz l=>exact this
 |ob O Q=>exact this
 |dead=>exact VQ
theorem Rep.ext(h:Rep w0 X C0 A s w)(he:∀t,look B.e t=look A.e t)(hm:∀k,look B.m k=look A.m k):Rep w0 X C0 B s w:=h.weak (λt a b=>(he t).symm.trans b) λk x d=>(hm k).symm.trans d
def pY{α:Type}(ks:List Nat)(l:List (Nat×α)):List (Nat×α):=List.rec (motive:=λ_=>List (Nat×α)) [] (λp _ ih=>match fe p.1 ks with
 |true=>ih
 |false=>p::ih) l
theorem Eu{α:Type}{ks:List Nat}{l:List (Nat×α)}{t:Nat}{x:α}(h:look (pY ks l) t=some x):look l t=some x/\t ∉ ks:=by
 induction l with
 |nil=>cases h
 |cons p r b=>
  obtain⟨q,y⟩:=p;have h:look (match fe q ks with
   |true=>pY ks r
   |false=>(q,y)::pY ks r) t=some x:=h
  rw[cG];cases a:fe q ks with
  |true=>
   rw[a]at h;obtain⟨e,d⟩:=b h;cases hb:Nat.beq q t with
   |true=>
    obtain rfl:=QJ hb;exact absurd (rH a) d
   |false=>exact⟨e,d⟩
  |false=>
   rw[a]at h;have h:look ((q,y)::pY ks r) t=some x:=h;rw[cG]at h;cases hb:Nat.beq q t with
   |true=>
    rw[hb]at h;obtain rfl:=QJ hb;exact⟨h,λi=>by rw[nO i]at a;cases a⟩
   |false=>
    rw[hb]at h;exact b h
def sa{α:Type}(f:En ->List (Nat×α))(es:List En):List Nat:=List.rec (motive:=λ_=>List Nat) [] (λe _ ih=>keysOf (f e)++ih) es
theorem Ks{α:Type}{f:En ->List (Nat×α)}{es:List En}{e:En}(he:e∈es){t:Nat}(a:look (f e) t≠none):t∈sa f es:=by
 induction es with
 |nil=>cases he
 |cons g r b=>
  show t∈keysOf (f g)++sa f r;rcases List.mem_cons.1 he with rfl|he
  ·exact QW _ (iE a)
  ·exact QV _ (b he)
def sb(es:List En)(ks:List Nat)(A:AS):AS:=⟨pY (sa En.wr es) A.e,pY (ks++sa En.wm es) A.m⟩
theorem Kt{es fs:List En}{ks:List Nat}{D:Nat ->Bool}{A:AS}(h:Rep w0 X C0 ((stD es D 0 A).upd [] (dk ks)) s w)(z:∀e∈es,e∈fs):Rep w0 X C0 (sb fs ks A) s w:=by
 have b:∀{α:Type} (f:En ->List (Nat×α)) (t:Nat) (d:Option α),t ∉ sa f fs ->∀(l:List En) (i:Nat),(∀e∈l,e∈fs) ->gd f l D i t d=d:=λf t d u l=>by
  induction l with
  |nil=>intro i _;rfl
  |cons e r F=>
   intro i E;have H:look (f e) t=none:=Classical.byContradiction λI=>u (Ks (E e Ud) I);simp only[gd,H];rw[show (match D i with
    |true=>d
    |false=>d)=d by cases D i<;>rfl]
   exact F (i+1) λe L=>E e (by simp[L])
 refine h.weak (λt a u=>?_) λk x M=>?_
 ·obtain⟨v,q⟩:=Eu u
  show look (stD es D 0 A).e t=_;rw[pk',b _ _ _ q es 0 z];exact v
 ·obtain⟨v,q⟩:=Eu M
  rw[JW,not_or]at q;show look (dk ks++(stD es D 0 A).m) k=_;rw[rx,kE',b _ _ _ q.2 es 0 z]
  ·exact v
  ·cases N:look (dk ks) k with
   |none=>rfl
   |some y=>
    refine absurd ?_ q.1;obtain⟨j,O,e⟩:=List.mem_map.1 (dm N);injection e with e
    exact e▸O
def pZ(n:Nat)(K:Exit ->St ->World ->Prop):Exit ->Act ->World ->Prop:=λe a w=>(e= .normal \/∃c,e= .panic c)/\lift n K e a w
end
def mI(a b:List Nat):Bool:=match a with
 |[]=>false
 |x::r=>match fe x b with
  |true=>true
  |false=>mI r b
theorem mJ{a b:List Nat}{k:Nat}(ha:k∈a)(hb:k∈b):mI a b=true:=by
 induction a with
 |nil=>cases ha
 |cons x r e=>
  simp only[mI];cases d:fe x b with
  |true=>rfl
  |false=>
   rcases List.mem_cons.1 ha with rfl|ha
   ·rw[nO hb]at d
    cases d
   ·exact e ha
def uZ(l:List (Nat×AV)):List Nat:=List.rec (motive:=λ_=>List Nat) [] (λp _ ih=>p.2.refs++ih) l
theorem Ku{l:List (Nat×AV)}{p:Nat×AV}(h:p∈l){k:Nat}(a:k∈p.2.refs):k∈uZ l:=by
 induction l with
 |nil=>cases h
 |cons q r b=>
  show k∈q.2.refs++uZ r;rcases List.mem_cons.1 h with rfl|h
  ·exact QW _ a
  ·exact QV _ (b h)
def vd(l:List (Nat×SE)):List Nat:=List.rec (motive:=λ_=>List Nat) [] (λp _ ih=>match p.2.alive with
 |true=>ih
 |false=>p.1::ih) l
theorem Kv{l:List (Nat×SE)}{k:Nat}{x:SE}(h:look l k=some x)(b:x.alive=false):k∈vd l:=by
 induction l with
 |nil=>cases h
 |cons p r d=>
  obtain⟨q,y⟩:=p;show k∈(match y.alive with
   |true=>vd r
   |false=>q::vd r)
  rw[cG]at h;cases a:Nat.beq q k with
  |true=>
   rw[a]at h;obtain rfl:=JB h;rw[b];simp[QJ a]
  |false=>
   rw[a]at h;have:=d h;cases y.alive<;>simp[this]
def jw(a b:En):Bool:=mI (keysOf a.wr) (b.rs++keysOf b.wr)||(mI a.rs (keysOf b.wr)||(mI (keysOf a.wm) (b.rk++(b.lk++keysOf b.wm))||(mI a.rk (keysOf b.wm)||(mI a.lk (vd b.wm)||mI a.F (uZ b.wr++(kF b.wm++keysOf b.wm))))))
def eb(an:List Nat)(l:List Edge):Nat:=List.rec (motive:=λ_=>Nat) 0 (λe _ ih=>match Region.binds .any e with
 |true=>Nat.lor (Nat.lor (2^e.on) (an.getD e.on 0)) ih
 |false=>ih) l
def mL(k:Nat)(l:List Edge):Bool:=List.rec (motive:=λ_=>Bool) true (λe _ ih=>match Region.binds .any e with
 |true=>match Nat.ble (e.on+1) k with
  |true=>ih
  |false=>false
 |false=>ih) l
def p8(l:List En):Nat ->Nat ->En ->Bool:=List.rec (motive:=λ_=>Nat ->Nat ->En ->Bool) (λ_ _ _=>true) (λa _ ih j anc b=>match jw a b with
 |true=>match Nat.testBit anc j with
  |true=>ih (j+1) anc b
  |false=>false
 |false=>ih (j+1) anc b) l
def jW(l:List Oper):List En ->List Nat ->List En ->Bool:=List.rec (motive:=λ_=>List En ->List Nat ->List En ->Bool) (λ_ _ _=>true) (λo _ ih es an prev=>match es with
 |[]=>match mL an.length o.after.toList,Nat.testBit (eb an o.after.toList) (prev.length-1)with
  |true,true=>ih [] (an++[eb an o.after.toList]) prev
  |_,_=>false
 |e::es=>match mL an.length o.after.toList,p8 prev 0 (eb an o.after.toList) e with
  |true,true=>ih es (an++[eb an o.after.toList]) (prev++[e])
  |_,_=>false) l
theorem sd{k:Nat}:∀{l:List Edge},mL k l=true ->∀e∈l,Region.binds .any e=true ->e.on<k
 |q::r,h,e,he,hb=>by
  have h:(match Region.binds .any q with
   |true=>match Nat.ble (q.on+1) k with
    |true=>mL k r
    |false=>false
   |false=>mL k r)=true:=h
  split at h
  ·split at h
   ·rename_i a
    have a:=QX a;rcases List.mem_cons.1 he with rfl|he
    ·omega
    ·exact sd h e he hb
   ·cases h
  ·rename_i b
   rcases List.mem_cons.1 he with rfl|he
   ·rw[hb]at b;cases b
   ·exact sd h e he hb
theorem Ev{d:Nat}{b:En}:∀{l:List En} {j:Nat},p8 l j d b=true ->∀(i:Nat) a,l[i]?=some a ->jw a b=true ->d.testBit (j+i)=true
 |q::r,j,h,i,a,ha,hc=>by
  have h:(match jw q b with
   |true=>match Nat.testBit d j with
    |true=>p8 r (j+1) d b
    |false=>false
   |false=>p8 r (j+1) d b)=true:=h
  have m:p8 r (j+1) d b=true/\(jw q b=true ->d.testBit j=true):=by
   split at h
   ·split at h
    ·rename_i t
     exact⟨h,λ_=>t⟩
    ·cases h
   ·rename_i u
    exact⟨h,λe=>by rw[u]at e;cases e⟩
  cases i with
  |zero=>
   obtain rfl:=JB ha;exact m.2 hc
  |succ i=>
   have:=Ev m.1 i a ha hc
   rwa [show j+1+i=j+(i+1) by omega]at this
theorem y9{a:List Nat}:∀{l:List Edge} {j:Nat},(eb a l).testBit j=true ->∃e∈l,Region.binds .any e=true/\(j=e.on \/(a.getD e.on 0).testBit j=true)
 |[],j,h=>by
  have h:Nat.testBit 0 j=true:=h;simp at h
 |q::r,j,h=>by
  have h:(match Region.binds .any q with
   |true=>Nat.lor (Nat.lor (2^q.on) (a.getD q.on 0)) (eb a r)
   |false=>eb a r).testBit j=true:=h
  split at h
  ·rename_i i
   have h:(((2^q.on)|||(a.getD q.on 0))|||eb a r).testBit j=true:=h;rw[Nat.testBit_or,Nat.testBit_or,Bool.or_eq_true,Bool.or_eq_true,Nat.testBit_two_pow]at h;rcases h with (h|h)|h
   ·exact⟨q,Ud,i,.inl (of_decide_eq_true h).symm⟩
   ·exact⟨q,Ud,i,.inr h⟩
   ·obtain⟨e,b,d⟩:=y9 h
    exact⟨e,by simp[b],d⟩
  ·obtain⟨e,b,d⟩:=y9 h
   exact⟨e,by simp[b],d⟩
def jX(l:List Oper):List Nat ->List Nat:=List.rec (motive:=λ_=>List Nat ->List Nat) (λan=>an) (λo _ ih an=>ih (an++[eb an o.after.toList])) l
abbrev nopO(o:Oper):Oper:={o with dst:=none,op:=.assign (.const (.bool true)),guard:=none}
def kI(z:Nat)(l:List Oper):List Nat ->List Oper:=List.rec (motive:=λ_=>List Nat ->List Oper) (λ_=>[]) (λo _ ih an=>(match Nat.testBit (eb an o.after.toList) z with
 |true=>nopO o
 |false=>o)::ih (an++[eb an o.after.toList])) l
theorem lS':∀(l:List Oper) (a:List Nat) (i:Nat),i<a.length ->(jX l a)[i]?=a[i]?
 |[],a,i,h=>rfl
 |o::l,a,i,h=>by
  show (jX l (a++[eb a o.after.toList]))[i]?=_;rw[lS' l _ i Uk,QH h]
theorem za(z:Nat):∀(l:List Oper) (a:List Nat),(kI z l a).length=l.length
 |[],_=>rfl
 |o::l,a=>by
  show (_::kI z l (a++[eb a o.after.toList])).length=_;rw[JV,za z l,JV]
theorem Kw(o:Oper)(l:List Oper)(a:List Nat):jX (o::l) a=jX l (a++[eb a o.after.toList]):=rfl
theorem Kx(z:Nat)(o:Oper)(l:List Oper)(a:List Nat):kI z (o::l) a=(match Nat.testBit (eb a o.after.toList) z with
 |true=>nopO o
 |false=>o)::kI z l (a++[eb a o.after.toList]):=rfl
theorem Ky(z:Nat):∀(l:List Oper) (b:List Nat) (i:Nat) (o:Oper) (a:Nat),l[i]?=some o ->(jX l b)[b.length+i]?=some a ->a.testBit z=false ->(kI z l b)[i]?=some o:=by
 intro l
 induction l with
 |nil=>intro b i o a d _ _;simp at d
 |cons o l j=>
  intro b i m a d e h;rw[Kw]at e;rw[Kx];cases i with
  |zero=>
   rw[List.getElem?_cons_zero]at d ⊢;rw[lS' l _ _ Ud,Nat.add_zero,QU (KJ _),Nat.sub_self,List.getElem?_cons_zero]at e;rw[JB e,h];exact d
  |succ i=>
   rw[List.getElem?_cons_succ]at d ⊢;exact j _ i m a d (by rw[JK,List.length_singleton,show b.length+1+i=b.length+(i+1) by omega];exact e) h
def se(all:List Oper)(i:Nat)(anc:Nat):Prop:=∀listed:Array Bool,ClsV .any all.toArray listed ->(∀o,all[i]?=some o ->∀e∈o.after,Region.binds .any e=true ->listed.getD e.on false=true) ->∀j,anc.testBit j=true ->listed.getD j false=true
theorem Kz{all:List Oper}{tot:List En}:∀(l:List Oper) (d:List Nat) (k:Nat),jW l (tot.drop k) d (tot.take k)=true ->d.length=k ->(∀i:Nat,all[k+i]?=l[i]?) ->(∀(i:Nat) b,d[i]?=some b ->se all i b) ->jX l d=jX all [] ->
  ∀(i:Nat) o,k<=i ->all[i]?=some o ->∃b,(∀m∈o.after,Region.binds .any m=true ->m.on<i)/\(∀e,tot[i]?=some e ->∀(j:Nat) a,j<i ->tot[j]?=some a ->jw a e=true ->b.testBit j=true)/\se all i b/\(tot.length<=i ->b.testBit (tot.length-1)=true)/\(jX all [])[i]?=some b:=by
 intro l
 induction l with
 |nil=>
  intro d k _ _ O _ _ i o T z;have:=O (i-k);rw[show k+(i-k)=i by omega,z]at this;simp at this
 |cons o l ih=>
  intro d k h U O h6 S i o' T z;have E:(jX all [])[k]?=some (eb d o.after.toList):=by
   rw[<- S];show (jX l (d++[eb d o.after.toList]))[k]?=_;rw[lS' l _ _ Uk,QU Uo,U,Nat.sub_self]
   rfl
  have x:=O 0;rw[Nat.add_zero]at x;have q:mL d.length o.after.toList=true ->se all k (eb d o.after.toList):=λt y F u j V=>by
   obtain⟨m,q1,q2,W⟩:=y9 V;have Y:=u o x m (by simpa using q1) q2;rcases W with rfl|W
   ·exact Y
   ·have r:=sd t m q1 q2
    have hg:d[m.on]?=some (d.getD m.on 0):=by
     rw[QK,List.getElem?_eq_getElem r]
     rfl
    exact h6 _ _ hg y F (λo2 Z a0 H a1=>F m.on o2 (by simpa using Z) Y a0 H a1) j W
  have next:jW l (tot.drop (k+1)) (d++[eb d o.after.toList]) (tot.take (k+1))=true ->mL d.length o.after.toList=true ->k+1<=i ->∃b,(∀m∈o'.after,Region.binds .any m=true ->m.on<i)/\(∀e,tot[i]?=some e ->∀(j:Nat) a,j<i ->tot[j]?=some a ->jw a e=true ->b.testBit j=true)/\se all i b/\(tot.length<=i ->b.testBit (tot.length-1)=true)/\(jX all [])[i]?=some b:=λh t r=>by
   refine ih _ (k+1) h (by simp[U]) (λi=>?_) (λi b I=>?_) S i o' r z
   ·have:=O (i+1)
    rwa [show k+(i+1)=k+1+i by omega]at this
   ·rcases Nat.lt_or_ge i k with S|S
    ·rw[QH Uo]at I
     exact h6 i b I
    ·have a2:=aL I
     simp at a2;obtain rfl:i=k:=Uo
     rw[QU Uo,U,Nat.sub_self]at I;obtain rfl:=JB I;exact q t
  cases v:tot.drop k with
  |nil=>
   have L:tot.length<=k:=by simpa using v
   have a3:tot.take k=tot:=JG L;rw[v,a3]at h;have h:(match mL d.length o.after.toList,Nat.testBit (eb d o.after.toList) (tot.length-1)with
    |true,true=>jW l [] (d++[eb d o.after.toList]) tot
    |_,_=>false)=true:=h
   split at h
   ·rename_i t g2
    rcases Nat.eq_or_lt_of_le T with rfl|r
    ·rw[x]at z
     obtain rfl:=JB z;exact⟨_,λm u hb=>by have:=sd t m (by simpa using u) hb;omega,λe he=>by have:=aL he;omega,q t,λ_=>g2,E⟩
    ·refine next ?_ t r
     rw[JY Uo,JG Uo];exact h
   ·cases h
  |cons e es=>
   have D:tot[k]?=some e:=by
    have:=KG (·[0]?) v
    simpa using this
   have M:tot.drop (k+1)=es:=by
    have:=KG (List.drop 1) v;rw[List.drop_drop]at this
    simpa using this
   rw[v]at h;have h:(match mL d.length o.after.toList,p8 (tot.take k) 0 (eb d o.after.toList) e with
    |true,true=>jW l es (d++[eb d o.after.toList]) (tot.take k++[e])
    |_,_=>false)=true:=h
   split at h
   ·rename_i t g2
    rcases Nat.eq_or_lt_of_le T with rfl|r
    ·rw[x]at z
     obtain rfl:=JB z;refine⟨_,λm u hb=>by have:=sd t m (by simpa using u) hb;omega,λe' N j a V ha hc=>?_,q t,λY=>by have:=aL D;omega,E⟩;rw[D]at N;obtain rfl:=JB N;have:=Ev g2 j a (by rw[List.getElem?_take,KX V];exact ha) hc
     rwa [KW]at this
    ·refine next ?_ t r
     rw[M,QQ,D];exact h
   ·cases h
section
variable{w0:World}{X:List Nat}{C0:Mem}{P:Program}{τ:Tau}{n:Nat}{all:List Oper}{A B:AS}{s:St}{w:World}
theorem Ew{t:Nat}{D l:Nat ->Bool}:∀(es:List En) (i:Nat) (d m:Option SE),((∃x,m=some x/\x.alive=true) ->∃x,d=some x/\x.alive=true) ->(∀(j:Nat) e x,es[j]?=some e ->look e.wm t=some x ->(l (i+j)=true ->D (i+j)=true)/\(D (i+j)=true ->l (i+j)=false ->x.alive=true)) ->(∃x,gd En.wm es l i t m=some x/\x.alive=true) ->∃x,gd En.wm es D i t d=some x/\x.alive=true
 |[],_,_,_,h,_,q=>h q
 |e::r,i,d,m,h,u,q=>by
  refine Ew r (i+1) _ _ (λb=>?_) (λj f x z E=>by have:=u (j+1) f x z E;rwa [show i+1+j=i+(j+1) by omega]) q;cases hl:look e.wm t with
  |none=>
   rw[hl]at b;have F:(match l i with
    |true=>m
    |false=>m)=m:=by cases l i<;>rfl
   have H:(match D i with
    |true=>d
    |false=>d)=d:=by cases D i<;>rfl
   simp only[F]at b;simp only[H];exact h b
  |some x=>
   rw[hl]at b;obtain⟨v,y⟩:=u 0 e x rfl hl;rw[Nat.add_zero]at v y;cases a:l i with
   |true=>
    rw[a]at b;rw[v a];exact b
   |false=>
    rw[a]at b;cases I:D i with
    |true=>exact⟨x,rfl,y I a⟩
    |false=>exact h b
theorem Ex(b8:aU P τ){es:List En}{id:Nat}{K:Exit ->St ->World ->Prop}(z:Nat)(g':es.length=all.length)(f':z<=all.length)
  (g0:∀(i:Nat) o e,i≠z ->all[i]?=some o ->es[i]?=some e ->(z<all.length ->∃L,(jX all [])[i]?=some L/\L.testBit z=false) ->mH w0 X C0 P τ n all o (stD es (λq=>decide (q<i)) 0 A) e/\jV (stD es (λq=>decide (q<i)) 0 A) e.F=true)
  (c6:z=all.length ->∀(D:Nat ->Bool),(∀i,i<all.length ->D i=true) ->B=stD es D 0 A)
  (g1:∀o e,all[z]?=some o ->es[z]?=some e ->∃ch ks,rZ w0 X C0 P τ n all o (stD es (λq=>decide (q<z)) 0 A) e ch ks/\∀(D:Nat ->Bool) s' w',Rep w0 X C0 ((stD es D 0 A).upd [] (dk ks)) s' w' ->s'.d=s.d ->K (.panic ch) s' w')
  (c7:jW all es [] []=true) (hR:Rep w0 X C0 A s w) (hK:z=all.length ->∀s' w',Rep w0 X C0 B s' w' ->s'.d=s.d ->K .normal s' w'):EvCode P n (.region id all.toArray true) s w K:=by
 have W:=Kz (all:=all) (tot:=es) all [] 0 (by simpa using c7) rfl (λi=>by rw[KW]) (λi L hi=>by simp at hi) rfl;have b9:∀(i:Nat) o e,0<=i ->all[i]?=some o ->es[i]?=some e ->∃L,(∀ed∈o.after,Region.binds .any ed=true ->ed.on<i)/\(∀(j:Nat) a,j<i ->es[j]?=some a ->jw a e=true ->L.testBit j=true)/\se all i L:=λi o e h0 ho v=>by
  obtain⟨L,O,h2,h3,_⟩:=W i o h0 ho;exact⟨L,O,h2 e v,h3⟩
 have c8:∀(d:Array Bool),ClsV .any all.toArray d ->∀(i j:Nat) a b,i<j ->es[i]?=some a ->es[j]?=some b ->jw a b=true ->(d.getD j false=true \/∀o,all[j]?=some o ->∀ed∈o.after,Region.binds .any ed=true ->d.getD ed.on false=true) ->d.getD i false=true:=λd S i j a b g2 ha hb hc E=>by
  have H:=aL hb;have g3:all[j]?=some all[j]:=gE;obtain⟨L,_,h2,h3⟩:=b9 j _ b (KV _) g3 hb;refine h3 d S (λo ho ed b2 c9=>?_) i (h2 i a g2 ha hc);rcases E with E|E
  ·exact S j o (by simpa using ho) E ed b2 c9
  ·exact E o ho ed b2 c9
 have c':∀(T:Nat) (d:Array Bool) (a:Act) (w:World),d.size=all.length ->ClsV .any all.toArray d ->(List.range all.length).countP (λi=>!d.getD i false)<=T ->((∃s',Fr n a s'/\s'.d=s.d/\Rep w0 X C0 (stD es (λq=>d.getD q false) 0 A) s' w)/\d.getD z false=false) ->wpAny P .any all.toArray (pZ n K) T d a w:=by
  have b5:∀(d:Array Bool) (a:Act) (w:World),d.size=all.length ->ClsV .any all.toArray d ->Region.ready .any all.toArray d=[] ->((∃s',Fr n a s'/\s'.d=s.d/\Rep w0 X C0 (stD es (λq=>d.getD q false) 0 A) s' w)/\d.getD z false=false) ->pZ n K .normal a w:=λd a w b0 S hr ⟨⟨s',hF,hd,a0⟩,Y⟩=>by
   have b6:∀i,i<all.length ->d.getD i false=true:=by
    intro i
    induction i using Nat.strongRecOn with
    |_ i ih=>
     intro hi;cases Z:d.getD i false with
     |true=>rfl
     |false=>
      exfalso;have a4:all[i]?=some all[i]:=List.getElem?_eq_getElem hi;obtain⟨L,O,_,_,_⟩:=W i _ (KV _) a4;have b7:i∈Region.ready .any all.toArray d:=mem_ready.2 ⟨by
       have a9:i<d.size:=Uo
       simp[a9]at Z ⊢;exact Z,all[i],Ud,λe v hb=>ih e.on (O e v hb) (by have:=O e v hb;omega)⟩
      rw[hr]at b7;cases b7
   have d':z=all.length:=by
    rcases Nat.eq_or_lt_of_le f' with h|h
    ·exact h
    ·have h2:=b6 z h
     rw[Y]at h2;cases h2
   rw[<- c6 d' (λq=>d.getD q false) b6]at a0;exact⟨.inl rfl,s',hF,hK d' s' w a0 hd⟩
  intro T
  induction T with
  |zero=>
   intro d a w b0 S e0 hG;have hr:Region.ready .any all.toArray d=[]:=by
    rw[List.eq_nil_iff_forall_not_mem];intro i hi;obtain⟨O,o,ho,_⟩:=mem_ready.1 hi;have b':i<all.length:=by
     have:=(Array.getElem?_eq_some_iff.1 ho).1
     simpa using this
    have h0:(List.range all.length).countP (λi=>!d.getD i false)=0:=Uo
    rw[List.countP_eq_zero]at h0;have:=h0 i (List.mem_range.2 b');have a9:i<d.size:=Uo
    simp[a9]at O this;rw[O]at this;cases this
   exact⟨hr,b5 d a w b0 S hr hG⟩
  |succ T ih=>
   intro d a w b0 S e0 hG;refine⟨λhr=>b5 d a w b0 S hr hG,λi hi=>?_⟩;obtain⟨⟨s',hF,hd,a0⟩,Y⟩:=hG;obtain⟨O,o,ho,b2⟩:=mem_ready.1 hi;have a4:all[i]?=some o:=by simpa using ho
   have b':=aL a4;have a9:i<d.size:=Uo
   have Z:d.getD i false=false:=by
    simp[a9]at O ⊢;exact O
   have e2:i<es.length:=Uo
   have a1:es[i]?=some es[i]:=List.getElem?_eq_getElem e2;have a7:∀o2,all[i]?=some o2 ->∀ed∈o2.after,Region.binds .any ed=true ->d.getD ed.on false=true:=λo2 b3=>by
    rw[a4]at b3;obtain rfl:=JB b3;exact b2
   have U:∀(j:Nat) b,j<i ->es[j]?=some b ->jw b es[i]=true ->d.getD j false=true:=λj b H hb hc=>c8 d S j i b _ H hb a1 hc (.inr a7);have M:∀(j:Nat) b,i<j ->es[j]?=some b ->jw es[i] b=true ->d.getD j false=false:=λj b H hb hc=>by
    cases E:d.getD j false with
    |false=>rfl
    |true=>
     have:=c8 d S i j _ b H a1 hb hc (.inl E);rw[Z]at this;cases this
   have a2:∀{a b:Bool},a=true ->(a||b)=true:=λ{a b} h=>by rw[h];rfl
   have u:∀{a b:Bool},b=true ->(a||b)=true:=λ{a b} h=>by rw[h];cases a<;>rfl
   have e3:∀t∈(es[i]).rs,look (stD es (λq=>d.getD q false) 0 A).e t=look (stD es (λq=>decide (q<i)) 0 A).e t:=λt ht=>by
    rw[pk',pk'];refine r8 es 0 _ λj e v E=>?_;rw[KW];have hk:=iE E;rcases Nat.lt_trichotomy j i with H|rfl|H
    ·rw[U j e H v (a2 (mJ hk (QW _ ht))),KU H]
    ·rw[Z,KH (Nat.lt_irrefl _)]
    ·rw[M j e H v (u (a2 (mJ ht hk))),KH Uo]
   have e4:∀t∈(es[i]).rk,look (stD es (λq=>d.getD q false) 0 A).m t=look (stD es (λq=>decide (q<i)) 0 A).m t:=λt ht=>by
    rw[kE',kE'];refine r8 es 0 _ λj e v E=>?_;rw[KW];have hk:=iE E;rcases Nat.lt_trichotomy j i with H|rfl|H
    ·rw[U j e H v (u (u (a2 (mJ hk (QW _ ht))))),KU H]
    ·rw[Z,KH (Nat.lt_irrefl _)]
    ·rw[M j e H v (u (u (u (a2 (mJ ht hk))))),KH Uo]
   have e5:∀t∈(es[i]).lk,Al (stD es (λq=>decide (q<i)) 0 A) t ->Al (stD es (λq=>d.getD q false) 0 A) t:=λt ht=>by
    unfold Al;rw[kE',kE'];refine Ew es 0 _ _ (λh=>h) λj e x v hx=>?_;rw[KW];have hk:=iE (l:=e.wm) (k:=t) (by rw[hx];simp);refine⟨λO=>U j e (of_decide_eq_true O) v (u (u (a2 (mJ hk (QV _ (QW _ ht)))))),λO h2=>?_⟩;have h2:=of_decide_eq_false h2;have e6:j≠i:=λe1=>by
     have O:d.getD j false=true:=O;rw[e1,Z]at O;cases O
    refine Decidable.byContradiction λhn=>?_;have g4:x.alive=false:=by simpa using hn
    have h3:=M j e Uo v (u (u (u (u (a2 (mJ ht (Kv hx g4)))))));have O:d.getD j false=true:=O;rw[h3]at O;cases O
   by_cases b1:i=z
   ·subst b1
    obtain⟨ch,ks,g5,g6⟩:=g1 o _ a4 a1;refine CK (o:=o) ho ?_;have c0:=g5 _ s' w (λN V=>False) (λc N V=>c=ch/\K (.panic ch) N V) e3 e4 e5 a0 λN V a3 c1=>⟨rfl,g6 _ N V a3 (c1.trans hd)⟩
    exact tV b8 (l:=all) (Q:=λe a' w'=>(e= .normal/\wpAny P .any all.toArray (pZ n K) T (d.setIfInBounds i true) a' w') \/∃c,e= .panic c/\pZ n K (.panic c) a' w') (λN V c2 a8 h=>h.elim) (λc N V c2 a8 ⟨O,h3⟩=>.inr ⟨c,rfl,.inr ⟨c,rfl⟩,N,a8,by rw[O];exact h3⟩) [o] s' w a hF c0
   obtain⟨e7,g7⟩:=g0 i o _ b1 a4 a1 λh4=>by
    obtain⟨L,_,_,h3,_,h5⟩:=W i o (KV _) a4;refine⟨L,h5,?_⟩;cases hb:L.testBit z with
    |false=>rfl
    |true=>
     have h6:=h3 d S (λo2 b3 ed e8 hb=>a7 o2 b3 ed e8 hb) z hb;rw[Y]at h6;cases h6
   have g8:∀k∈(es[i]).F,NoRef k (stD es (λq=>d.getD q false) 0 A):=λk hk=>by
    obtain⟨n1,n2⟩:=tV' g7 k hk;have c3:∀(j:Nat) e,es[j]?=some e ->d.getD j false=true ->j<i \/(i<j/\jw es[i] e=false):=λj e v E=>by
     rcases Nat.lt_trichotomy j i with H|rfl|H
     ·exact .inl H
     ·rw[Z]at E;cases E
     ·refine .inr ⟨H,?_⟩
      cases hc:jw es[i] e with
      |false=>rfl
      |true=>rw[M j e H v hc]at E;cases E
    have a5:∀(e:En),k∈uZ e.wr++(kF e.wm++keysOf e.wm) ->jw es[i] e=true:=λe h=>u (u (u (u (u (mJ hk h)))));refine⟨λt a ha c4=>?_,λj x hx c5=>?_,λx hx=>?_⟩
    ·rw[pk']at ha
     rcases valD_some es 0 _ ha with h2|⟨j,e,v,E,hx⟩
     ·exact n1 (t,a) (lP' es _ 0 A _ (.inl (dm h2))) c4
     ·rw[KW]at E
      rcases c3 j e v E with H|⟨H,hc⟩
      ·exact n1 (t,a) (lP' es _ 0 A _ (.inr ⟨j,e,v,by rw[KW];exact KU H,dm hx⟩)) c4
      ·rw[a5 e (QW _ (Ku (dm hx) c4))]at hc
       cases hc
    ·rw[kE']at hx
     rcases valD_some es 0 _ hx with h2|⟨q,e,v,E,hy⟩
     ·exact(n2 (j,x) (gX' es _ 0 A _ (.inl (dm h2)))).1 c5
     ·rw[KW]at E
      rcases c3 q e v E with H|⟨H,hc⟩
      ·exact(n2 (j,x) (gX' es _ 0 A _ (.inr ⟨q,e,v,by rw[KW];exact KU H,dm hy⟩))).1 c5
      ·rw[a5 e (QV _ (QW _ (D4 (dm hy) c5)))]at hc
       cases hc
    ·rw[kE']at hx
     rcases valD_some es 0 _ hx with h2|⟨q,e,v,E,hy⟩
     ·exact(n2 (k,x) (gX' es _ 0 A _ (.inl (dm h2)))).2 rfl
     ·rw[KW]at E
      rcases c3 q e v E with H|⟨H,hc⟩
      ·exact(n2 (k,x) (gX' es _ 0 A _ (.inr ⟨q,e,v,by rw[KW];exact KU H,dm hy⟩))).2 rfl
      ·rw[a5 e (QV _ (QV _ (iE (by rw[hy];simp))))]at hc
       cases hc
   refine CK (o:=o) ho ?_;have c0:=e7 _ s' w (λN V=>N.d=s.d/\Rep w0 X C0 ((stD es (λq=>d.getD q false) 0 A).upd (es[i]).wr (es[i]).wm) N V) (λ_ _ _=>False) e3 e4 e5 g8 a0 λN V a3 c1=>⟨c1.trans hd,a3⟩
   refine tV b8 (l:=all) (Q:=λe a' w'=>(e= .normal/\wpAny P .any all.toArray (pZ n K) T (d.setIfInBounds i true) a' w') \/∃c,e= .panic c/\pZ n K (.panic c) a' w') (λN V c2 a8 ⟨e9,a3⟩=>.inl ⟨rfl,?_⟩) (λ_ _ _ _ _ hk=>hk.elim) [o] s' w a hF c0;have I:∀q,(d.setIfInBounds i true).getD q false=(if q=i then true else d.getD q false):=λq=>by
    by_cases hq:q=i
    ·subst hq
     rw[KX rfl];simp[a9]
    ·rw[KY hq,getD_set_ne false (Ne.symm hq)]
   refine ih _ c2 V (by simpa using b0) (S.set hi) ?_ ⟨⟨N,a8,e9,a3.ext (λt=>?_) λk=>?_⟩,by rw[I z,KY (Ne.symm b1)];exact Y⟩
   ·have h7:(List.range all.length).countP (λq=>!(d.setIfInBounds i true).getD q false)<(List.range all.length).countP (λq=>!d.getD q false):=by
     have e':∀l:List Nat,i∈l ->l.Nodup ->l.countP (λq=>!(d.setIfInBounds i true).getD q false)<l.countP (λq=>!d.getD q false):=by
      intro l
      induction l with
      |nil=>intro h;cases h
      |cons q r g9=>
       intro hm b4;rw[List.nodup_cons]at b4;rw[List.countP_cons,List.countP_cons];rcases List.mem_cons.1 hm with rfl|hm
       ·have e1:r.countP (λq=>!(d.setIfInBounds i true).getD q false)=r.countP (λq=>!d.getD q false):=by
         refine List.countP_congr λq hq=>?_;rw[I q,KY λe1:q=i=>b4.1 (e1▸hq)]
        rw[e1,I,KX rfl,Z];simp
       ·have:=g9 hm b4.2
        have e6:q≠i:=λe1=>b4.1 (e1▸hm);rw[I q,KY e6];omega
     exact e' _ (List.mem_range.2 b') List.nodup_range
    omega
   ·rw[pk']
    show _=look ((es[i]).wr++(stD es (λq=>d.getD q false) 0 A).e) t;rw[lC];cases E:look (es[i]).wr t with
    |some x=>
     refine y8 es 0 i _ _ a1 (by simp only[KW];rw[I,KX rfl]) E λj e H v a6=>?_;rw[KW,I,KY Uo]at a6;cases hx:look e.wr t with
     |none=>rfl
     |some y=>
      have:=M j e H v (a2 (mJ (iE (by rw[E];simp)) (QV _ (iE (by rw[hx];simp)))));rw[this]at a6;cases a6
    |none=>
     simp only;rw[pk'];refine r8 es 0 _ λj e v hx=>?_;rw[KW,I,KY];intro e1;subst e1;rw[a1]at v;obtain rfl:=JB v;exact hx E
   ·rw[kE']
    show _=look ((es[i]).wm++(stD es (λq=>d.getD q false) 0 A).m) k;rw[lC];cases E:look (es[i]).wm k with
    |some x=>
     refine y8 es 0 i _ _ a1 (by simp only[KW];rw[I,KX rfl]) E λj e H v a6=>?_;rw[KW,I,KY Uo]at a6;cases hx:look e.wm k with
     |none=>rfl
     |some y=>
      have:=M j e H v (u (u (a2 (mJ (iE (by rw[E];simp)) (QV _ (QV _ (iE (by rw[hx];simp))))))));rw[this]at a6;cases a6
    |none=>
     simp only;rw[kE'];refine r8 es 0 _ λj e v hx=>?_;rw[KW,I,KY];intro e1;subst e1;rw[a1]at v;obtain rfl:=JB v;exact hx E
 unfold EvCode;intro a hF;refine Go.wp_mono (wp_region_any b8.mixed (c' _ _ a _ Ud (λk o _ hk=>by simp[Array.getD]at hk) ?_ ⟨⟨s,hF,rfl,?_⟩,by simp[Array.getD]⟩)) λe a' w' v=>?_
 ·refine KQ (List.countP_le_length) ?_
  simp
 ·obtain⟨C,ρ,hR⟩:=hR
  rw[gW' _ _ _ _ λj _=>by simp[Array.getD]];exact⟨C,ρ,hR.dr _⟩
 ·exact v.2
theorem AY':∀(l:List Oper) (A:AS) (fs:List En) (e:En) (ch:List PanicEntry) (ks:List Nat) (B:AS),o3 w0 X C0 P τ n all l A fs e ch ks B ->(fs.length<l.length/\e.wr=[]/\e.wm=[]/\∀(j:Nat) (D:Nat ->Bool),(∀i,i<fs.length ->D (j+i)=true) ->B=stD fs D j A)/\∀(j i:Nat) o,l[i]?=some o ->(∀f,fs[i]?=some f ->mH w0 X C0 P τ n all o (stD fs (λq=>decide (q<j+i)) j A) f/\jV (stD fs (λq=>decide (q<j+i)) j A) f.F=true)/\(i=fs.length ->rZ w0 X C0 P τ n all o (stD fs (λq=>decide (q<j+i)) j A) e ch ks):=by
 intro l
 induction l with
 |nil=>
  intro A fs e ch ks B h;cases fs<;>exact h.elim
 |cons o l y=>
  intro A fs e ch ks B h;cases fs with
  |nil=>
   obtain⟨h,z,E,F⟩:=h;refine⟨⟨Ud,z,E,λ_ _ _=>F.symm⟩,λj i m d=>⟨λf b=>by simp at b,λa=>?_⟩⟩;have a:i=0:=a;subst a;obtain rfl:=JB d;exact h
  |cons f fs=>
   obtain⟨H,I⟩:=h;obtain⟨⟨L,M,N,O⟩,S⟩:=y _ _ _ _ _ _ I;refine⟨⟨by simpa using L,M,N,λj D r=>?_⟩,λj i m d=>?_⟩
   ·have t:=r 0 Ud
    rw[Nat.add_zero]at t;simp only[stD];rw[t];exact O (j+1) D λi a=>by
     have:=r (i+1) (by simpa using a)
     rwa [show j+(i+1)=j+1+i by omega]at this
   cases i with
   |zero=>
    obtain rfl:=JB d;refine⟨λu b=>?_,λa=>by simp at a⟩;obtain rfl:=JB b;rw[gW' _ _ _ _ λq U=>Uk];exact H
   |succ i=>
    obtain⟨v,x⟩:=S (j+1) i m d;rw[show j+1+i=j+(i+1) by omega]at v x;have T:stD (f::fs) (λq=>decide (q<j+(i+1))) j A=stD fs (λq=>decide (q<j+(i+1))) (j+1) (A.upd f.wr f.wm):=by
     simp only[stD];rw[KU (show j<j+(i+1) by omega)]
    rw[T];exact⟨λu b=>v u b,λa=>x (by simpa using a)⟩
theorem KA(h:aU P τ){es:List En}{id:Nat}{K:Exit ->St ->World ->Prop}(j:lG w0 X C0 P τ n all all A es B)(a:jW all es [] []=true)(l:Rep w0 X C0 A s w)(m:∀s' w',Rep w0 X C0 B s' w' ->s'.d=s.d ->K .normal s' w'):EvCode P n (.region id all.toArray true) s w K:=by
 have b:=tX' all A B es j;refine Ex h (B:=B) all.length b (KJ _) (λi o e _ d q _=>?_) (λ_ D r=>AX' all A B es j 0 D λi t=>by rw[KW];exact r i t) (λo e d _=>?_) a l λ_=>m
 ·have:=zn' all A B es j 0 i o e d q
  rwa [KW]at this
 ·rw[QF (KJ _)]at d
  cases d
theorem pl':∀(fs gs:List En) (D:Nat ->Bool) (j:Nat) (A:AS),stD (fs++gs) D j A=stD gs D (j+fs.length) (stD fs D j A)
 |[],gs,D,j,A=>rfl
 |f::fs,gs,D,j,A=>by
  simp only[List.cons_append,stD,JV];rw[pl' fs gs D (j+1),show j+1+fs.length=j+(fs.length+1) by omega]
theorem KC(u:aU P τ){fs gs:List En}{e:En}{ch:List PanicEntry}{ks:List Nat}{B M:AS}{id:Nat}{K:Exit ->St ->World ->Prop}(N:o3 w0 X C0 P τ n all all A fs e ch ks B)(H:lG w0 X C0 P τ n all ((kI fs.length all []).drop (fs.length+1)) B gs M)(b:jW all (fs++e::gs) [] []=true)(O:Rep w0 X C0 A s w){I:List En}(v:∀f∈fs++e::gs,f∈I)(S:∀s' w',Rep w0 X C0 (sb I ks A) s' w' ->s'.d=s.d ->K (.panic ch) s' w'):EvCode P n (.region id all.toArray true) s w K:=by
 obtain⟨⟨L,x,y,T⟩,d⟩:=AY' all A fs e ch ks B N;have z:=tX' _ _ _ _ H;rw[VK,za]at z;have j:(fs++e::gs).length=all.length:=Uk
 have l:∀i,i<=fs.length ->stD (fs++e::gs) (λq=>decide (q<i)) 0 A=stD fs (λq=>decide (q<i)) 0 A:=λi m=>by
  rw[pl',gW' _ _ _ _ λq U=>Uk]
 refine Ex u (B:=A) (es:=fs++e::gs) fs.length j (Nat.le_of_lt L) (λi o f m t a r=>?_) (λh=>Uo) (λo f t a=>⟨ch,ks,?_,λD s' w' E=>S s' w' ?_⟩) b O λh=>Uo
 ·rcases Nat.lt_or_gt_of_ne m with m|m
  ·rw[QH m]at a
   have:=(d 0 i o t).1 f a;rw[KW]at this;rw[l i Uo];exact this
  ·obtain⟨F,V,W⟩:=r L
   have Y:=Ky fs.length all [] i o F t (by simpa using V) W;obtain⟨k,rfl⟩:∃k,i=fs.length+1+k:=⟨i-(fs.length+1),Uo⟩
   rw[QU Uo,show fs.length+1+k-fs.length=k+1 by omega,List.getElem?_cons_succ]at a;have:=zn' _ _ _ _ H (fs.length+1) k o f (by rw[List.getElem?_drop];exact Y) a;have Z:stD (fs++e::gs) (λq=>decide (q<fs.length+1+k)) 0 A=stD gs (λq=>decide (q<fs.length+1+k)) (fs.length+1) B:=by
    rw[pl',KW,<- T 0 _ λq U=>by rw[KW];exact KU Uo];simp only[stD];rw[KU (show fs.length<fs.length+1+k by omega),x,y]
    rfl
   rw[Z];exact this
 ·rw[QU (KJ _),Nat.sub_self]at a
  obtain rfl:=JB a;have:=(d 0 _ o t).2 rfl;rw[KW]at this;rw[l _ (KJ _)];exact this
 ·exact Kt E v
end
structure VCode(P:Program)(n:Nat)(c:Code)(A:AS)(K:Exit ->AS ->Prop):Prop where
 go:
 ∀(w0:World) (X:List Nat) (C0:Mem) (s:St) (w:World),Rep w0 X C0 A s w ->EvCode P n c s w λe s' w'=>s'.d=s.d/\∃A',K e A'/\Rep w0 X C0 A' s' w'
structure mM(all:List Oper)(es:List En)(k:Prop):Prop where
 go:jW all es.reverse [] []=true/\k
theorem iF{all:List Oper}{es:List En}{k:Prop}(h:jW all es.reverse [] []=true)(a:k):mM all es k:=by
 exact⟨⟨h,a⟩⟩
def p9(m:List Bool)(l:List Oper):List Oper:=List.rec (motive:=λ_=>List Oper ->List Oper) (λl=>l) (λb _ ih l=>List.rec (motive:=λ_=>List Oper) [] (λo t _=>Bool.rec (motive:=λ_=>List Oper) (o::ih t) (nopO o::ih t) b) l) m l
structure zb(all:List Oper)(es:List En)(k:List Oper ->Prop):Prop where
 go:∃m,(kI (es.length-1) all []).drop es.length=p9 m (all.drop es.length)/\k (p9 m (all.drop es.length))
theorem sf{all:List Oper}{es:List En}{k:List Oper ->Prop}(m:List Bool)(a:k (p9 m (all.drop es.length)))(h:(kI (es.length-1) all []).drop es.length=p9 m (all.drop es.length):=by kernel_rfl):zb all es k:=⟨m,h,a⟩
def leftV(P:Program)(τ:Tau)(n:Nat)(all:List Oper)(es:List En)(A:AS)(K:List En ->Prop):Prop:=match all.drop es.length with
 |[]=>mM all es (K es)
 |_=>zb all es λl=>VL P τ n all (λes _=>mM all es (K es)) (λ_ _ _ _=>False) l es A
def gx(k:AS ->Prop)(K:Exit ->AS ->Prop):Exit ->AS ->Prop
 | .normal,A=>k A
 |e,A=>K e A
def sg(id:Nat)(K:Exit ->AS ->Prop):Exit ->AS ->Prop
 | .exit j,A=>match Nat.beq j id with
  |true=>K .normal A
  |false=>K (.exit j) A
 |e,A=>K e A
def vx(P:Program)(τ:Tau)(n:Nat)(c:Code):AS ->(Exit ->AS ->Prop) ->Prop:=
 Code.rec (motive:=λ_=>AS ->(Exit ->AS ->Prop) ->Prop)
  (λA K=>K .normal A)
  (λ_ ops draw A K=>Bool.rec (motive:=λ_=>Prop) (VL P τ n ops.toList (λ_ B=>K .normal B) (λ_ ch ks B=>K (.panic ch) (B.upd [] (dk ks))) ops.toList [] A) (VL P τ n ops.toList (λes B=>mM ops.toList es (K .normal B)) (λes ch ks B=>leftV P τ n ops.toList es B λfs=>K (.panic ch) (sb fs ks A)) ops.toList [] A) draw)
  (λ_ _ iha ihb A K=>iha A (gx (λA'=>ihb A' K) K))
  (λc _ _ iha ihb A K=>rd A c λa=>match a with
   | .c (.p (.bool t))=>Br t (iha A K) (ihb A K)
   |_=>False)
  (λid _ ih A K=>ih A (sg id K))
  (λc _ A K=>VCode P n (.loop c) A K)
  (λf ps x y _ _ A K=>VCode P n (.rangeFunc f ps x y) A K)
  (λid A K=>K (.exit id) A)
  (λx _ A K=>VCode P n (.scope x) A K)
  (λ_ A K=>K .normal A)
  (λl A K=>VCode P n (.goto l) A K)
  (λA K=>K .ret A)
  (λm A K=>VCode P n (.refuse m) A K) c
def RK(w0:World)(X:List Nat)(C0:Mem)(d:List Deferred)(K:Exit ->AS ->Prop):Exit ->St ->World ->Prop:=λe s w=>s.d=d/\∃A,K e A/\Rep w0 X C0 A s w
section
variable{w0:World}{X:List Nat}{C0:Mem}{P:Program}{τ:Tau}{n:Nat}{A B:AS}{s:St}{w:World}
theorem Ey(D:aU P τ):∀(c:Code) (A:AS) (s:St) (w:World) (K:Exit ->AS ->Prop),vx P τ n c A K ->Rep w0 X C0 A s w ->EvCode P n c s w (RK w0 X C0 s.d K):=by
 intro c
 induction c with
 |skip=>
  intro A s w K h q;unfold EvCode;exact λa z=>wp_skip ⟨s,z,rfl,A,h,q⟩
 |region id r U=>
  intro A s w K h q;cases U with
  |false=>
   have h:VL P τ n r.toList (λ_ B=>K .normal B) (λ_ F S B=>K (.panic F) (B.upd [] (dk S))) r.toList [] A:=h;unfold EvCode;intro a z;refine nw D (.region id r false) s w _ ?_ a z;rcases VL_ok (w0:=w0) (X:=X) (C0:=C0) D h with ⟨H,B,N,d⟩|⟨H,e,F,S,B,N,d⟩
   ·exact Er (K:=λs' w'=>RK w0 X C0 s.d K .normal s' w') N q λs' w' b u=>⟨u,B,d,b⟩
   ·exact Es (kp:=λF s' w'=>RK w0 X C0 s.d K (.panic F) s' w') N q λs' w' b u=>⟨u,_,d,b⟩
  |true=>
   have h:VL P τ n r.toList (λT B=>mM r.toList T (K .normal B)) (λT F S B=>leftV P τ n r.toList T B λH=>K (.panic F) (sb H S A)) r.toList [] A:=h;rcases VL_ok (w0:=w0) (X:=X) (C0:=C0) D h with ⟨H,B,N,d⟩|⟨H,e,F,S,B,N,d⟩
   ·replace d:=d.go
    rw[JD,List.reverse_reverse]at d;have:=KA D (id:=id) (K:=RK w0 X C0 s.d K) N d.1 q λs' w' b u=>⟨u,B,d.2,b⟩
    simpa using this
   ·have d:VL P τ n r.toList (λT _=>mM r.toList T (K (.panic F) (sb T S A))) (λ_ _ _ _=>False) ((kI H.length r.toList []).drop (H.length+1)) (e::H.reverse) B:=by
     rw[JD]at d;unfold leftV at d;split at d
     ·rename_i h0
      have E:(kI H.length r.toList []).drop (H.length+1)=[]:=List.eq_nil_of_length_eq_zero (by
       have:=KG List.length h0;simp only[VK,JV,List.length_reverse,JU]at this;rw[VK,za];exact this)
      rw[E];exact d
     ·obtain⟨m,E,M⟩:=d.go
      rw[<- E,JV,List.length_reverse,Nat.add_sub_cancel]at M;exact M
    rcases VL_ok (w0:=w0) (X:=X) (C0:=C0) D d with ⟨gs,B',hG,d⟩|⟨_,_,_,_,_,_,d⟩
    ·replace d:=d.go
     rw[List.reverse_append,List.reverse_reverse,List.reverse_cons,List.reverse_reverse,List.append_assoc]at d;have:=KC D (id:=id) (K:=RK w0 X C0 s.d K) N hG d.1 q (λf hf=>by simpa[or_comm,or_left_comm,or_assoc]using hf) λs' w' b u=>⟨u,_,d.2,b⟩
     simpa using this
    ·exact d.elim
 |seq x y I L=>
  intro A s w K h q;have h:vx P τ n x A (gx (λA'=>vx P τ n y A' K) K):=h;have E:=I A s w _ h q;unfold EvCode at E ⊢;intro a z;refine wp_seq (Go.wp_mono (E a z) λe a' w' W=>?_);obtain⟨s',i,u,A',d,b⟩:=W;cases e with
  |normal=>
   have M:=L A' s' w' K d b;unfold EvCode at M;rw[u]at M;exact M a' i
  |exit id=>exact⟨s',i,u,A',d,b⟩
  |goto l=>exact⟨s',i,u,A',d,b⟩
  |ret=>exact⟨s',i,u,A',d,b⟩
  |panic F=>exact⟨s',i,u,A',d,b⟩
  |outgrown=>exact⟨s',i,u,A',d,b⟩
 |cond c x y I L=>
  intro A s w K h q;obtain⟨a0,E,M,Y⟩:=bT (show rd A c _ from h);split at Y
  ·rename_i t
   obtain⟨C,ρ,O⟩:=q;obtain⟨_,v,V,Z⟩:=O.op (Agr.rfl' A [c]) Ud E M;have Z:RV C (.bool t) v:=Z;cases Z;unfold EvCode;intro a z;have V:=z.eval V;rcases br_cases Y with ⟨e,h4⟩|⟨e,h4⟩
   ·subst e
    have:=I A s w K h4 ⟨C,ρ,O⟩;unfold EvCode at this;exact wp_cond_true V (this a z)
   ·subst e
    have:=L A s w K h4 ⟨C,ρ,O⟩;unfold EvCode at this;exact wp_cond_false V (this a z)
  ·exact Y.elim
 |block id x ih=>
  intro A s w K h q;have E:=ih A s w _ (show vx P τ n x A (sg id K)from h) q;unfold EvCode at E ⊢;intro a z;refine wp_block (Go.wp_mono (E a z) λe a' w' W=>?_);obtain⟨s',i,u,A',d,b⟩:=W;cases e with
  |normal=>exact⟨s',i,u,A',d,b⟩
  |exit j=>
   simp only[Exit.inBlock];simp only[sg]at d
   by_cases hj:j=id
   ·subst hj
    rw[KX rfl];rw[Nat.beq_refl]at d;exact⟨s',i,u,A',d,b⟩
   ·rw[KY hj]
    have:Nat.beq j id=false:=by
     cases hb:Nat.beq j id with
     |true=>exact absurd (QJ hb) hj
     |false=>rfl
    rw[this]at d;exact⟨s',i,u,A',d,b⟩
  |goto l=>exact⟨s',i,u,A',d,b⟩
  |ret=>exact⟨s',i,u,A',d,b⟩
  |panic F=>exact⟨s',i,u,A',d,b⟩
  |outgrown=>exact⟨s',i,u,A',d,b⟩
 |exit id=>
  intro A s w K h q;unfold EvCode;exact λa z=>wp_exit ⟨s,z,rfl,A,h,q⟩
 |ret=>
  intro A s w K h q;unfold EvCode;exact λa z=>wp_ret ⟨s,z,rfl,A,h,q⟩
 |label l=>
  intro A s w K h q;unfold EvCode;exact λa z=>wp_label ⟨s,z,rfl,A,h,q⟩
 |loop x ih=>intro A s w K h q;have h:VCode P n (.loop x) A K:=h;replace h:=h.go;exact h w0 X C0 s w q
 |rangeFunc f ps x y I L=>intro A s w K h q;have h:VCode P n (.rangeFunc f ps x y) A K:=h;replace h:=h.go;exact h w0 X C0 s w q
 |scope x ih=>intro A s w K h q;have h:VCode P n (.scope x) A K:=h;replace h:=h.go;exact h w0 X C0 s w q
 |goto l=>intro A s w K h q;have h:VCode P n (.goto l) A K:=h;replace h:=h.go;exact h w0 X C0 s w q
 |refuse m=>intro A s w K h q;have h:VCode P n (.refuse m) A K:=h;replace h:=h.go;exact h w0 X C0 s w q
end
theorem VCode.run{P:Program}{n:Nat}{c:Code}{A:AS}{K:Exit ->AS ->Prop}(h:VCode P n c A K)(w0:World)(X:List Nat)(C0:Mem)(s:St)(w:World)(a:Rep w0 X C0 A s w):EvCode P n c s w λe s' w'=>s'.d=s.d/\∃A',K e A'/\Rep w0 X C0 A' s' w':=by
 replace h:=h.go
 exact h w0 X C0 s w a
theorem o4{P:Program}{τ:Tau}{n:Nat}{A:AS}{K:Exit ->AS ->Prop}(a:aU P τ){c:Code}(h:vx P τ n c A K):VCode P n c A K:=VCode.mk λw0 X C0 s w b=>Ey a c A s w K h b
structure Le(f:Nat ->Nat)(A B:AS):Prop where
 e:∀t b,look B.e t=some b ->look A.e t=some (b.ren f)
 m:∀k y,look B.m k=some y ->look A.m (f k)=some (y.ren f)
 i:∀j k x y,look B.m j=some x ->look B.m k=some y ->f j=f k ->j=k
section
variable{w0:World}{X:List Nat}{C0:Mem}{P:Program}{τ:Tau}{n:Nat}{A B:AS}{s:St}{w:World}
theorem Rep.le(h:Rep w0 X C0 A s w){f:Nat ->Nat}(a:Le f A B):Rep w0 X C0 B s w:=by
 obtain⟨C,ρ,h⟩:=h;have m:∀l:List Nat,Lv B l ->Lv A (l.map f):=λl q k d=>by
  obtain⟨j,D,rfl⟩:=List.mem_map.1 d;obtain⟨x,r,z⟩:=q j D;exact⟨_,a.m j x r,by rw[D3];exact z⟩
 refine⟨C,λk=>ρ (f k),λt b hb q=>?_,λk y N=>?_,λj k x y g E D F d H O=>h.sep (f j) (f k) _ _ g (λe=>E (a.i j k x y D d e)) (a.m j x D) (by rw[oU];exact F) (a.m k y d) (by rw[oU];exact H) O,λk x g b o v d S=>h.off (f k) _ g b o v (a.m k x d) (by rw[oU];exact S),h.sub,h.c0,h.cn,h.kp⟩
 ·obtain⟨v,r,z⟩:=h.slot t _ (a.e t b hb) (by rw[J7];exact m _ q)
  exact⟨v,r,RA.ren_iff.1 z⟩
 ·have:=h.ent _ _ (a.m k y N)
  cases y with
  |st U T Z=>
   obtain⟨b,V,r,z,W,Y,I⟩:=this;exact⟨b,V,r,z,W,by simpa using Y,λi c u L M=>⟨(I i _ u (by rw[JX,L];rfl) M).1,λq=>RC.ren ((I i _ u (by rw[JX,L];rfl) M).2 (by rw[uP];exact m _ q))⟩⟩
  |rw e sz l=>exact this
  |fz l=>exact this
  |ob U Q=>exact this
  |dead=>exact VQ
theorem zd(q:aU P τ){c:Code}{K:Exit ->AS ->Prop}{σ:Type}(I:σ ->AS)(M:σ ->Prop)(μ:σ ->Nat)(x0:σ)(f:Nat ->Nat)(u:Le f A (I x0))(v:M x0)
  (cd:∀x,M x ->vx P τ n c (I x) (gx (λA'=>∃y f,μ y<μ x/\M y/\Le f A' (I y)) K)):VCode P n (.loop c) A K:=by
 refine⟨?_⟩;intro w0 X C0 s w D;unfold EvCode;intro a E;refine wp_loop_ghost (λy a w=>M y/\∃s',Fr n a s'/\s'.d=s.d/\Rep w0 X C0 (I y) s' w) μ x0 ⟨v,s,E,rfl,D.le u⟩ ?_;rintro y a w ⟨F,s',r,j,t⟩;have:=Ey q c (I y) s' w _ (cd y F) t;unfold EvCode at this;refine Go.wp_mono (this a r) λe S w' H=>?_;obtain⟨i,b,d,A',m,h⟩:=H;cases e with
 |normal=>
  obtain⟨z,g,L,N,O⟩:=m;exact⟨z,⟨N,i,b,d.trans j,h.le O⟩,L⟩
 |exit id=>exact⟨i,b,d.trans j,A',m,h⟩
 |goto l=>exact⟨i,b,d.trans j,A',m,h⟩
 |ret=>exact⟨i,b,d.trans j,A',m,h⟩
 |panic T=>exact⟨i,b,d.trans j,A',m,h⟩
 |outgrown=>exact⟨i,b,d.trans j,A',m,h⟩
end
def si(f:Nat ->Nat)(A:AS)(l:List (Nat×AV)):Prop:=List.rec (motive:=λ_=>Prop) True (λp _ ih=>look A.e p.1=some (p.2.ren f)/\ih) l
def lH(f:Nat ->Nat)(A:AS)(l:List (Nat×SE)):Prop:=List.rec (motive:=λ_=>Prop) True (λp _ ih=>look A.m (f p.1)=some (p.2.ren f)/\ih) l
theorem iG{f:Nat ->Nat}{A B:AS}(he:si f A B.e)(hm:lH f A B.m)(hi:dc f (keysOf B.m)=true):Le f A B:=by
 refine⟨λt b hb=>?_,λk y d=>?_,λj k x y e i=>uQ hi j (iE (by rw[e];simp)) k (iE (by rw[i];simp))⟩
 ·have:=dm hb
  revert this he
  generalize B.e=l
  intro he hm
  induction l with
  |nil=>cases hm
  |cons p r a=>
   have he:look A.e p.1=some (p.2.ren f)/\si f A r:=he;rcases List.mem_cons.1 hm with h|h
   ·rw[<- h]at he
    exact he.1
   ·exact a he.2 h
 ·have:=dm d
  revert this hm
  generalize B.m=l
  intro he hm
  induction l with
  |nil=>cases hm
  |cons p r a=>
   have he:look A.m (f p.1)=some (p.2.ren f)/\lH f A r:=he;rcases List.mem_cons.1 hm with h|h
   ·rw[<- h]at he
    exact he.1
   ·exact a he.2 h
def qT':List PV ->Nat ->List (Nat×AV)
 |[],_=>[]
 |v::r,i=>(i,.c (.p v))::qT' r (i+1)
def gs':List PV ->PV
 |[v]=>v
 |vs=>.tup vs
def dT(τ:Tau)(A:AS)(l:List ResultVar):Option (List AV):=List.rec (motive:=λ_=>Option (List AV)) (some []) (λx _ ih=>match x with
 | .tmp t=>match look A.e t with
  |some a=>match gS A a.refs,ih with
   |true,some r=>some (a::r)
   |_,_=>none
  |none=>none
 | .cell t T=>match look τ.tab T,look A.e t with
  |some (_,z),some (.c (.ptr k 0))=>match look A.m k with
   |some (.st _ _ cs)=>match Nat.beq cs.length z.length,gS A (k::refsL cs),ih with
    |true,true,some r=>some (.agg cs::r)
    |_,_,_=>none
   |_=>none
  |none,some (.c (.ptr k 0))=>match look τ.ones T,look A.m k with
   |some _,some (.st _ _ [c])=>match gS A (k::c.refs),ih with
    |true,some r=>some (.c c::r)
    |_,_=>none
   |_,_=>none
  |_,_=>none) l
theorem ze{P:Program}{τ:Tau}(a:aU P τ){T q b:Nat}(hr:look τ.ones T=some q){w:World}{K:Value ->Prop}{v:Value}(h:Cl w.heap b 0 v)(e:K v):EvRun P (loadVar T ⟨b,0,none⟩) w λv w'=>w'=w/\K v:=by
 obtain⟨d,i,j,l,_⟩:=a.ones T q hr;refine run (v:=v) (w':=w) ?_ ⟨rfl,e⟩;have m:=h.cell;cases d<;>simp_all [loadVar,isAgg,run_underlying j,load,Sem.run,jz']
def ve(l:List AV):Option (List AC):=List.rec (motive:=λ_=>Option (List AC)) (some []) (λa _ ih=>match a with
 | .c x=>match ih with
  |some r=>some (x::r)
  |none=>none
 |_=>none) l
def zf(l:List AV):Option AV:=match l with
 |[a]=>some a
 |l=>match ve l with
  |some cs=>some (.tp cs)
  |none=>none
def sj(τ:Tau)(rs:List ResultVar)(r:PV):Exit ->AS ->Prop
 | .normal,A=>∃aes ps,dT τ A rs=some aes/\cM A aes=some ps/\gs' ps=r
 | .ret,A=>∃aes ps,dT τ A rs=some aes/\cM A aes=some ps/\gs' ps=r
 |_,_=>False
section
variable{P:Program}{τ:Tau}{n:Nat}{A B:AS}{s:St}{w:World}
theorem Ez{w0:World}{X:List Nat}{C0 C:Mem}{ρ:Nat ->Value}(F:aU P τ)(h:Rp w0 X C0 A s w C ρ):∀{rs:List ResultVar} {aes:List AV},dT τ A rs=some aes ->∃vs:List Value,vs.length=aes.length/\(∀(i:Nat) a v,aes[i]?=some a ->vs[i]?=some v ->RA C ρ a v)/\∀k:List Value ->Prop,k vs ->kr P s rs w k:=by
 intro rs
 induction rs with
 |nil=>
  intro aes e;obtain rfl:=JB e;exact⟨[],rfl,λi a v e=>by simp at e,λk D=>D⟩
 |cons x r Z=>
  intro aes e;cases x with
  |cell t T=>
   have e:(match look τ.tab T,look A.e t with
    |some (_,z),some (.c (.ptr k 0))=>match look A.m k with
     |some (.st _ _ W)=>match Nat.beq W.length z.length,gS A (k::refsL W),dT τ A r with
      |true,true,some r=>some (.agg W::r)
      |_,_,_=>none
     |_=>none
    |none,some (.c (.ptr k 0))=>match look τ.ones T,look A.m k with
     |some _,some (.st _ _ [c])=>match gS A (k::c.refs),dT τ A r with
      |true,some r=>some (.c c::r)
      |_,_=>none
     |_,_=>none
    |_,_=>none)=some aes:=e
   split at e
   ·rename_i fs z k hz H
    split at e
    ·rename_i g T' W hm
     split at e
     ·rename_i r' Y I h3
      obtain rfl:=JB e;obtain⟨vs,L,M,N⟩:=Z h3;have l:=nK I;obtain⟨v,O,b,hb,rfl⟩:=h.slot t _ H (λj E=>l j (by simp[AV.refs,AC.refs]at E;simp[E]));obtain⟨b',S,d,hB,_,m,hc⟩:=h.ent k _ hm;rw[hb]at d;injection d with d
      injection d with d
      injection d with d
      subst d;have Y:=QJ Y;refine⟨.agg S.toArray::vs,by simp[L],λi c u hb y=>?_,λk D=>?_⟩
      ·cases i with
       |zero=>
        obtain rfl:=JB hb;obtain rfl:=JB y;refine⟨S,rfl,m,λi c u U a0=>(hc i c u U a0).2 λq V=>l q (List.mem_cons_of_mem _ (jQ (JQ U) V))⟩
       |succ i=>exact M i c u hb y
      ·rw[xi,O]
       exact rh F hz S Uo (λj v E=>by have:=hB.cl E;simpa using this) (N _ D)
     ·cases e
    ·cases e
   ·rename_i k hz H
    split at e
    ·rename_i q g T' c V hm
     split at e
     ·rename_i r' I h3
      obtain rfl:=JB e;obtain⟨vs,L,M,N⟩:=Z h3;have l:=nK I;obtain⟨v,O,b,hb,rfl⟩:=h.slot t _ H (λj E=>l j (by simp[AV.refs,AC.refs]at E;simp[E]));obtain⟨b',S,d,hB,_,m,hc⟩:=h.ent k _ hm;rw[hb]at d;injection d with d
      injection d with d
      injection d with d
      subst d
      match S,m with
      |[u0],_=>
      refine⟨u0::vs,by simp[L],λi c u hb y=>?_,λk D=>?_⟩
      ·cases i with
       |zero=>
        obtain rfl:=JB hb;obtain rfl:=JB y;exact(hc 0 _ _ rfl rfl).2 λq V=>l q (List.mem_cons_of_mem _ V)
       |succ i=>exact M i c u hb y
      ·rw[xi,O]
       exact ze F V (hB.cl rfl) (N _ D)
     ·cases e
    ·cases e
   ·cases e
  |tmp t=>
   have e:(match look A.e t with
    |some a=>match gS A a.refs,dT τ A r with
     |true,some r=>some (a::r)
     |_,_=>none
    |none=>none)=some aes:=e
   split at e
   ·rename_i a H
    split at e
    ·rename_i r' Y I
     obtain rfl:=JB e;obtain⟨vs,L,M,N⟩:=Z I;obtain⟨v,O,hr⟩:=h.slot t a H (nK Y);refine⟨v::vs,by simp[L],λi b u hb y=>?_,λk D=>?_⟩
     ·cases i with
      |zero=>
       obtain rfl:=JB hb;obtain rfl:=JB y;exact hr
      |succ i=>exact M i b u hb y
     ·rw[Cg,O]
      exact N _ D
    ·cases e
   ·cases e
theorem EA{f:FuncId}{fn:Func}{c:Code}{args:List Value}{R:Ending ->World ->Prop}(n:Nat)(rs:List ResultVar)
  (u:P.funcs[f]?=some fn) (hb:fn.body=some c) (x:fn.ntmps=n) (j:fn.results.toList=rs) (y:args.length<=n)
  (h:EvCode P n c ⟨ini args 0,[]⟩ w (jp P rs R)):Calls P f args.toArray w R:=by
 subst x j;refine calls_of_wp u hb ?_;have z:Fr fn.ntmps {tmps:=args.toArray++Array.replicate (fn.ntmps-args.toArray.size) undef,defers:=[] } ⟨ini args 0,[]⟩:=by
  refine⟨Uk,rfl,λt v D=>?_⟩;obtain⟨_,b⟩:=lt' _ _ _ _ D;rw[Nat.sub_zero]at b;have m:t<args.length:=(List.getElem?_eq_some_iff.1 b).1;rw[Array.getElem?_append_left (by simpa using m)]
  simpa using b
 unfold EvCode at h;refine Go.wp_mono (h _ z) λe H w' E=>?_;obtain⟨s,d,a⟩:=E;have q:=d.defers;cases e with
 |normal=>
  simp only[jp]at a;split at a
  ·rename_i i
   obtain⟨F,r,b⟩:=ra d a;exact⟨by rw[q,i],_,r,b⟩
  ·exact a.elim
 |ret=>
  simp only[jp]at a;split at a
  ·rename_i i
   obtain⟨F,r,b⟩:=ra d a;exact⟨by rw[q,i],_,r,b⟩
  ·exact a.elim
 |panic I=>
  simp only[jp]at a;split at a
  ·rename_i i
   exact⟨by rw[q,i],a⟩
  ·exact a.elim
 |outgrown=>exact a
 |exit id=>exact a.elim
 |goto l=>exact a.elim
theorem KE{C:Mem}{ps:List PV}{vs:List Value}(h:db C ps vs):RV C (gs' ps) (one vs):=by
 obtain⟨a,b⟩:=h
 match ps,vs,a with
 |[],[],_=>exact .tup [] [] rfl λi y u d=>by simp at d
 |[x],[v],_=>exact b 0 x v rfl rfl
 |x::y::r,v::u::q,a=>exact .tup _ _ a b
def qa(τ:Tau)(rs:List ResultVar)(a:AV)(m':List (Nat×SE))(A:AS):Prop:=
 (∃bs ps r h,a= .c (.p r)/\dT τ A rs=some bs/\cM A bs=some ps/\gs' ps=r/\lH h (A.upd [] (bM A (refsA bs))) m'/\dc h (keysOf m')=true) \/
  ∃bs h,dT τ A rs=some bs/\zf bs=some (a.ren h)/\lH h A m'/\dc h (keysOf m')=true
def KI(τ:Tau)(rs:List ResultVar)(a:AV)(m':List (Nat×SE)):Exit ->AS ->Prop
 | .normal,A=>qa τ rs a m' A
 | .ret,A=>qa τ rs a m' A
 |_,_=>False
def zg(ch:List PanicEntry):Exit ->AS ->Prop
 | .panic c,_=>c=ch
 |_,_=>False
def sn(τ:Tau)(rs:List ResultVar):Except (List PanicEntry) (AV×List (Nat×SE)) ->Exit ->AS ->Prop
 | .ok q=>KI τ rs q.1 q.2
 | .error ch=>zg ch
theorem RA.tpR{C:Mem}{ρ:Nat ->Value}{bs:List AV}{vs:List Value}{b:AV}(h:zf bs=some b)(hl:vs.length=bs.length)(q:∀(i:Nat) a v,bs[i]?=some a ->vs[i]?=some v ->RA C ρ a v):RA C ρ b (one vs):=by
 unfold zf at h;split at h
 ·rename_i a
  obtain rfl:=JB h
  match vs,hl with
  |[v],_=>exact q 0 _ v rfl rfl
 ·rename_i t y
  cases d:ve bs with
  |none=>rw[d]at h;cases h
  |some j=>
   rw[d]at h;obtain rfl:=JB h;have l:∀(bs:List AV) (j:List AC),ve bs=some j ->bs=j.map .c:=λbs=>by
    induction bs with
    |nil=>intro j d;obtain rfl:=JB d;rfl
    |cons a r z=>
     intro j d;have d:(match (generalizing:=false) a with
      | .c x=>match ve r with
       |some r=>some (x::r)
       |none=>none
      |_=>none)=some j:=d
     split at d
     ·split at d
      ·rename_i D E
       obtain rfl:=JB d;rw[z D E]
       rfl
      ·cases d
     ·cases d
   have e:=l bs j d;have F:one vs= .tuple vs.toArray:=by
    match vs,hl with
    |[],_=>rfl
    |[v],hl=>
     match bs,hl with
     |[a],_=>exact absurd rfl (y a)
    |_::_::_,_=>rfl
   rw[F];refine⟨vs,rfl,by rw[hl,e,KF],λi c u m H=>q i (.c c) u (by rw[e,JX,m];rfl) H⟩
theorem Rp.reslot{w0:World}{X:List Nat}{C0 C:Mem}{ρ:Nat ->Value}(h:Rp w0 X C0 A s w C ρ){b:AV}{v:Value}(hb:Lv A b.refs ->RA C ρ b v):Rp w0 X C0 ⟨[(0,b)],A.m⟩ ⟨[(0,v)],[]⟩ w C ρ:=⟨λt a d e=>by
 obtain⟨rfl,rfl⟩:=bU d;exact⟨v,rfl,hb e⟩,λk x i=>h.ent k x i,h.sep,h.off,h.sub,h.c0,h.cn,h.kp⟩
theorem zh{rs:List ResultVar}{a:AV}{m':List (Nat×SE)}{w0 w:World}{X:List Nat}{C O:Mem}{d:Nat ->Value}{A:AS}{s:St}(l:aU P τ)(h:Rp w0 X C A s w O d)(U:qa τ rs a m' A):kr P s rs w λvs=>∃v C' ρ',Ending.returned (one vs)= .returned v/\Rp w0 X C ⟨[(0,a)],m'⟩ ⟨[(0,v)],[]⟩ w C' ρ':=by
 rcases U with ⟨q,ps,r,t,rfl,y,z,V,D,E⟩|⟨q,t,y,z,D,E⟩
 ·obtain⟨u,W,F,H⟩:=Ez (P:=P) l h y
  obtain⟨S,I,L,m⟩:=h.frz (refsA q) λ_ _=>rfl;obtain⟨p1,Y⟩:=pe' z;have Z:RV S r (one u):=by
   rw[<- V];refine KE ⟨Uo,λi x v hx T=>?_⟩;have hi:=aL T;have M:q[i]?=some q[i]:=gE;obtain⟨x',q1,q2⟩:=Y i _ M;rw[hx]at q1;obtain rfl:=JB q1;exact yt q2 ((F i _ v M T).mono L) λk hk=>m k (DM (JQ M) hk)
  obtain⟨N,e,j⟩:=Rep.le ⟨S,d,I.reslot (b:=.c (.p r)) (v:=one u) λ_=>Z⟩ (iG (f:=t) (B:=⟨[(0,.c (.p r))],m'⟩) ⟨rfl,VQ⟩ D E);exact H _ ⟨_,N,e,rfl,j⟩
 ·obtain⟨u,W,F,H⟩:=Ez (P:=P) l h y
  obtain⟨N,e,j⟩:=Rep.le ⟨O,d,h.reslot (b:=a.ren t) (v:=one u) λ_=>RA.tpR z Uo F⟩ (iG (f:=t) (B:=⟨[(0,a)],m'⟩) ⟨rfl,VQ⟩ D E);exact H _ ⟨_,N,e,rfl,j⟩
theorem o5 {f : FuncId} {fn : Func} {c : Code} {aes : List AV} {m : List (Nat × SE)} {r : Except (List PanicEntry) (AV × List (Nat × SE))} (n : Nat) (rs : List ResultVar) (i : aU P τ) (x : P.funcs[f]? = some fn) (hb : fn.body = some c) (D : fn.ntmps = n) (t : fn.results.toList = rs) (E : aes.length <= n) (u : (fn.name == "runtime.NumGoroutine") = false)
  (h:VCode P n c ⟨kD' aes 0,m⟩ (sn τ rs r)):VG P f aes m r:=by
 refine⟨⟨fn,x,by rw[hb];rfl,u⟩,λw X C ρ L y F=>?_⟩;refine EA n rs x hb D t Uo ?_;have:=h.run _ _ _ _ _ ⟨C,ρ,F⟩;unfold EvCode at this ⊢;intro a H;refine Go.wp_mono (this a H) λe M w' y=>?_;obtain⟨s',v,j,A',b,N,I,d⟩:=y;have j:s'.d=[]:=j;refine⟨s',v,?_⟩;cases r with
 |error z=>
  cases e with
  |panic c=>
   have b:c=z:=b;simp only[jp,j];exact⟨by rw[b],d.kp⟩
  |_=>exact b.elim
 |ok q=>
  obtain⟨a,O⟩:=q;cases e with
  |normal=>simp only[jp,j];exact zh i d b
  |ret=>simp only[jp,j];exact zh i d b
  |exit id=>exact b.elim
  |goto l=>exact b.elim
  |panic z=>exact b.elim
  |outgrown=>exact b.elim
theorem KL{f:FuncId}{fn:Func}{c:Code}{e:Nat}(n:Nat)(Z:aU P τ)(V:P.funcs[f]?=some fn)(h:∀u (os:List (Option Addr×Nat×Nat)),os.length<=100000 ->VCode P n c ⟨[(0,.c (.rv u 0))],[(0,.rw e 1 (os.map λq=>[.raw (sV q)]))]⟩ λW A=>W= .normal/\look A.e 0=some (.c (.rv u 0))/\look A.m 0=some (.rw e 1 (os.reverse.map λq=>[.raw (sV q)])))
  (hb : fn.body = some c := by rfl) (hn : fn.ntmps = n := by rfl) (E : fn.results.toList = [] := by rfl) (F : 1 <= n := by exact QX rfl) (H : (fn.name == "runtime.NumGoroutine") = false := by decide) : uU P f e := by
 refine⟨⟨fn,V,by rw[hb];rfl,H⟩,λw v os hl ho=>?_⟩;have hR:Rp w (blk v).toList (λ_ _ _=>False) ⟨[(0,.c (.rv v 0))],[(0,.rw e 1 (os.map λq=>[.raw (sV q)]))]⟩ ⟨ini [v] 0,[]⟩ w (λ_ _ _=>False) (λ_=>v):=by
  refine⟨λt a ht _=>?_,λk x m=>?_,λj k x y g I hj l m=>?_,λ_ _ _ _ _ _ _ _ _ h=>h.elim,λ_ _ _ h=>h.elim,λ_ _ _ h=>h,λ_ _ _ h=>h.elim,Kp.refl _ _⟩
  ·obtain⟨rfl,rfl⟩:=bU ht
   exact⟨v,rfl,rfl,rfl⟩
  ·obtain⟨rfl,rfl⟩:=bU m
   refine⟨os.map λq=>[sV q],⟨by rw[uT,KF];exact ho,λg hg=>.inr (by simpa using hg)⟩,λx l=>by obtain⟨_,_,rfl⟩:=List.mem_map.1 l;rfl,Ud,λi L x b l=>?_⟩;rw[JX]at b l;cases r:os[i]? with
   |none=>rw[r]at b;cases b
   |some q=>
    rw[r]at b l;obtain rfl:=JB b;obtain rfl:=JB l;refine⟨rfl,λj y u M N=>?_⟩
    match j,M,N with
    |0,M,N=>
     obtain rfl:=JB M;obtain rfl:=JB N;exact⟨rfl,.raw _⟩
  ·obtain⟨rfl,_⟩:=bU hj
   obtain⟨rfl,_⟩:=bU m;exact absurd rfl I
 refine EA (args:=[v]) n [] V hb hn E F ?_;have:=(h v os hl).run _ _ _ _ _ ⟨_,_,hR⟩;unfold EvCode at this ⊢;intro a hF;refine Go.wp_mono (this a hF) λW a' w' O=>?_;obtain⟨s',S,T,A',⟨rfl,h1,Y⟩,C1,a0,d⟩:=O;have T:s'.d=[]:=T;refine⟨s',S,?_⟩;simp only[jp,T];obtain⟨v',_,q1,q2⟩:=d.slot 0 _ h1 λk m=>by
  obtain rfl:k=0:=by simpa[AV.refs,AC.refs]using m
  exact⟨_,Y,rfl⟩
 subst q1;obtain⟨z,⟨U,c2⟩,c3,c4,c5⟩:=d.ent 0 _ Y;rw[<- q2]at U;have D:z=os.reverse.map λq=>[sV q]:=by
  rw[KF]at c4;refine List.ext_getElem? λi=>?_;cases b:z[i]? with
  |none=>
   have:=List.getElem?_eq_none_iff.1 b;rw[QF (by rw[KF];omega)]
  |some L=>
   have a1:=aL b;have r:os.reverse[i]?=some _:=gE;obtain⟨d1,d2⟩:=c5 i L _ b (by rw[JX,r];rfl);rw[JX,r]
   match L,d1 with
   |[u],_=>
    have:=(d2 0 _ u rfl rfl).2;cases this
    rfl
 rw[D,uT,KF,List.length_reverse]at U;exact⟨rfl,d.kp,U⟩
def EB(τ:Tau)(rs:List ResultVar)(e sz:Nat)(l:List (List PV)):Exit ->AS ->Prop
 | .normal,A=>∃k,dT τ A rs=some [.c (.row k)]/\look A.m k=some (.rw e sz l)
 | .ret,A=>∃k,dT τ A rs=some [.c (.row k)]/\look A.m k=some (.rw e sz l)
 |_,_=>False
def EC(τ:Tau)(rs:List ResultVar)(T:Nat)(cs:List PV):Exit ->AS ->Prop
 | .normal,A=>∃k ds,dT τ A rs=some [.c (.ptr k 0)]/\look A.m k=some (.st 0 T ds)/\jv ds=some cs
 | .ret,A=>∃k ds,dT τ A rs=some [.c (.ptr k 0)]/\look A.m k=some (.st 0 T ds)/\jv ds=some cs
 |_,_=>False
def ED(τ:Tau)(rs:List ResultVar):Except (List PanicEntry) PV ->Exit ->AS ->Prop
 | .ok r=>sj τ rs r
 | .error ch=>zg ch
def KM(τ:Tau)(rs:List ResultVar)(T:Nat)(r:PV)(cs':List PV):Exit ->AS ->Prop
 | .normal,A=>∃aes ps ds,dT τ A rs=some aes/\cM A aes=some ps/\gs' ps=r/\look A.m 0=some (.st 1 T ds)/\jv ds=some cs'
 | .ret,A=>∃aes ps ds,dT τ A rs=some aes/\cM A aes=some ps/\gs' ps=r/\look A.m 0=some (.st 1 T ds)/\jv ds=some cs'
 |_,_=>False
def sp(τ:Tau)(rs:List ResultVar)(T:Nat):Except (List PanicEntry) (List PV×PV) ->Exit ->AS ->Prop
 | .ok (cs',r)=>KM τ rs T r cs'
 | .error ch=>zg ch
theorem il':∀(ps:List PV) (i:Nat),qT' ps i=kD' (vals ps) i
 |[],_=>rfl
 |p::r,i=>KG ((i,AV.c (.p p)):: ·) (il' r (i+1))
theorem VCode.im{c:Code}{A:AS}{K b:Exit ->AS ->Prop}(h:VCode P n c A K)(d:∀e A,K e A ->b e A):VCode P n c A b:=⟨λw0 X C0 s w i=>by
 have:=h.run w0 X C0 s w i;unfold EvCode at this ⊢;exact λa j=>Go.wp_mono (this a j) λe t w' ⟨s',l,m,A',q,r⟩=>⟨s',l,m,A',d e A' q,r⟩⟩
section
variable{f:FuncId}{fn:Func}{c:Code}{ps:List PV}
theorem vg {r : PV} (n : Nat) (rs : List ResultVar) (a : aU P τ) (m : P.funcs[f]? = some fn) (hb : fn.body = some c) (q : fn.ntmps = n) (b : fn.results.toList = rs) (d : ps.length <= n) (i : (fn.name == "runtime.NumGoroutine") = false) (h : VCode P n c ⟨qT' ps 0, []⟩ (sj τ rs r)) : VC P f ps r := by
 refine o5 n rs a m hb q b (by rw[kG];exact d) i ?_;rw[<- il'];refine h.im λe A l=>?_;cases e<;>first|exact l.elim|(obtain⟨j,t,u,v,x⟩:=l;exact .inl ⟨j,t,r,id,rfl,u,v,x,VQ,rfl⟩)
theorem sq {r : PV} (n : Nat) (rs : List ResultVar) (a : aU P τ) (i : P.funcs[f]? = some fn) (hb : fn.body = some c) (j : fn.ntmps = n) (b : fn.results.toList = rs) (d : ps.length <= n) (e : (fn.name == "runtime.NumGoroutine") = false)
  (h:vx P τ n c ⟨qT' ps 0,[]⟩ (sj τ rs r)):VC P f ps r:=vg n rs a i hb j b d e (o4 a h)
theorem KN {e sz : Nat} {l : List (List PV)} (n : Nat) (rs : List ResultVar) (a : aU P τ) (m : P.funcs[f]? = some fn) (hb : fn.body = some c) (q : fn.ntmps = n) (b : fn.results.toList = rs) (d : ps.length <= n) (i : (fn.name == "runtime.NumGoroutine") = false) (h : VCode P n c ⟨qT' ps 0, []⟩ (EB τ rs e sz l)) : VO P f ps e sz l := by
 refine o5 n rs a m hb q b (by rw[kG];exact d) i ?_;rw[<- il'];refine h.im λe A j=>?_;cases e<;>first|exact j.elim|(obtain⟨k,r,t⟩:=j;exact .inr ⟨_,λ_=>k,r,rfl,⟨t,VQ⟩,rfl⟩)
theorem KO {T : Nat} {cs : List PV} (n : Nat) (rs : List ResultVar) (a : aU P τ) (m : P.funcs[f]? = some fn) (hb : fn.body = some c) (q : fn.ntmps = n) (b : fn.results.toList = rs) (d : ps.length <= n) (i : (fn.name == "runtime.NumGoroutine") = false) (h : VCode P n c ⟨qT' ps 0, []⟩ (EC τ rs T cs)) : VN P f ps T cs := by
 refine o5 n rs a m hb q b (by rw[kG];exact d) i ?_;rw[<- il'];refine h.im λe A j=>?_;cases e<;>first|exact j.elim|(obtain⟨k,u,r,l,t⟩:=j;exact .inr ⟨_,λ_=>k,r,rfl,⟨by rw[qP' t]at l;exact l.trans (KG (λx=>some (SE.st 0 T x)) (rR _ _).symm),VQ⟩,rfl⟩)
theorem KP {r : Except (List PanicEntry) PV} (n : Nat) (rs : List ResultVar) (a : aU P τ) (i : P.funcs[f]? = some fn) (hb : fn.body = some c) (j : fn.ntmps = n) (b : fn.results.toList = rs) (d : ps.length <= n) (e : (fn.name == "runtime.NumGoroutine") = false) (h : VCode P n c ⟨qT' ps 0, []⟩ (ED τ rs r)) : VX P f ps r := by
 cases r with
 |ok r=>exact vg n rs a i hb j b d e h
 |error l=>exact o5 (r:=.error l) n rs a i hb j b (by rw[kG];exact d) e (by rw[<- il'];exact h)
theorem KR {T : Nat} {cs : List PV} {r : Except (List PanicEntry) (List PV × PV)} (n : Nat) (rs : List ResultVar) (a : aU P τ) (l : P.funcs[f]? = some fn) (hb : fn.body = some c) (m : fn.ntmps = n) (b : fn.results.toList = rs) (i : ps.length + 1 <= n) (d : (fn.name == "runtime.NumGoroutine") = false)
  (h:VCode P n c ⟨(0,.c (.ptr 0 0))::qT' ps 1,[(0,.st 1 T (cs.map .p))]⟩ (sp τ rs T r)):ju P f T cs ps r:=by
 rw[il']at h;have q:(AV.c (.ptr 0 0)::vals ps).length<=n:=by rw[JV,kG];exact i
 match r,h with
 | .error v,h=>exact o5 (r:=.error v) n rs a l hb m b q d h
 | .ok (y,r),h=>
  refine o5 (r:=.ok (_,_)) n rs a l hb m b q d (h.im λe A t=>?_);cases e<;>first|exact t.elim|(obtain⟨j,z,I,D,E,F,u,H⟩:=t;exact .inl ⟨j,z,_,id,rfl,D,E,F,⟨by rw[qP' H]at u;exact(yR u (by simp[SE.fl])).trans (KG (λx=>some (SE.st 1 T x)) (rR _ _).symm),VQ⟩,rfl⟩)
end
end
def nilV:AV:=.c (.p (.raw (.slice none 0 0)))
section
variable{w0:World}{X:List Nat}{C0:Mem}{P:Program}{τ:Tau}{n:Nat}{A B:AS}{s:St}{w:World}{c:Code}{K:Exit ->AS ->Prop}
theorem VCode.of(h:VCode P n c B K)(a:∀(w0:World) (X:List Nat) (C0:Mem) (s:St) (w:World),Rep w0 X C0 A s w ->Rep w0 X C0 B s w):VCode P n c A K:=by
 refine⟨?_⟩
 replace h:=h.go
 exact λw0 X C0 s w b=>h w0 X C0 s w (a w0 X C0 s w b)
theorem dK(t k e sz:Nat)(q:look A.e t=some nilV)(r:jV A [k]=true)(h:VCode P n c (A.upd [(t,.c (.row k))] [(k,.rw e sz [])]) K):VCode P n c A K:=by
 refine h.of λw0 X C0 s w ⟨C,ρ,l⟩=>?_;have u:=r7 r k Ud;obtain⟨v,y,b⟩:=l.slot t _ q (λj z=>by cases z);have b:RV C (.raw (.slice none 0 0)) v:=b;cases b;refine⟨C,jS ρ k (.slice none 0 0),l.fresh u (Kp.refl [] w) (λg d=>by cases d) ⟨[],?_,(λx m=>by cases m),rfl,λi I x D m=>by simp at D⟩ (λE a F=>?_) λE H=>rfl⟩
 ·rw[gc]
  exact⟨⟨Ud,.inl ⟨rfl,rfl⟩⟩,λg d=>by cases d⟩
 ·obtain⟨rfl,rfl⟩:=bU F
  exact⟨_,y,(gc _ _ _).symm⟩
theorem kJ(j i k e sz:Nat){r:Nat}{T:Nat}{cs:List AC}(N:look A.m j=some (.st r T cs))(hi:cs[i]?=some (.p (.raw (.slice none 0 0))))(O:jV A [k]=true)(v:k≠j)(h:VCode P n c (A.upd [] [(j,.st r T (cs.set i (.row k))),(k,.rw e sz [])]) K):VCode P n c A K:=by
 refine h.of λw0 X C0 s w ⟨C,ρ,S⟩=>?_;have U:=r7 O k Ud;have E:Rp w0 X C0 (A.upd [] [(k,.rw e sz [])]) s w C (jS ρ k (.slice none 0 0)):=S.fresh U (Kp.refl [] w) (λg y=>by cases y) ⟨[],by rw[gc];exact⟨⟨Ud,.inl ⟨rfl,rfl⟩⟩,λg y=>by cases y⟩,(λx F=>by cases F),rfl,λi H x hi F=>by simp at hi⟩ (λV a D=>by cases D) λV W=>rfl;have l:look (A.upd [] [(k,SE.rw e sz [])]).m j=some (.st r T cs):=by
  show look ([(k,SE.rw e sz [])]++A.m) j=_;rw[rx]
  ·exact N
  ·rw[cG]
   cases hb:Nat.beq k j with
   |true=>exact absurd (QJ hb) v
   |false=>rfl
 obtain⟨b,H,Y,Z,g3,g4,I⟩:=E.ent j _ l;have h2:=E.modSt (wr:=[]) (cs':=cs.set i (.row k)) (us':=H) l Y ((Kp.refl [] w).weak Ud) Z (by simpa using g4) (λq c u d L=>by
  rw[List.getElem?_set]at d
  by_cases M:i=q
  ·subst M
   simp only[if_true]at d;split at d
   ·obtain rfl:=JB d
    obtain⟨o1,o2⟩:=I i _ u hi L;have hr:RV C (.raw (.slice none 0 0)) u:=o2 (λz hz=>by cases hz);cases hr;exact⟨rfl,λ_=>(gc _ _ _).symm⟩
   ·cases d
  ·rw[KY M]at d
   exact I q c u d L) (s':=s) (λt a D=>by cases D) (λ_ _=>rfl)
 exact⟨C,_,h2⟩
end
theorem EE{r:Int}{k:Int ->Prop}(a:k (IntKind.i64.wrap r)):nL .i64 r k:=by
 exact⟨⟨_,rfl,a⟩⟩
theorem bN{P:Program}{n:Nat}{o:Oper}{A:AS}{k:Kk}{d:List PanicEntry ->List Nat ->Prop}{f:FuncId}{aes:List AV}{ps:List PV}{b:Bool}{e i:Option (List PV)}(h:VC P f ps (.bool b))(h1:b=true ->fin n o.dst (.c (.p (.bool true))) λwr=>k wr (bM A (refsA aes)) [])(h2:b=false ->fin n o.dst (.c (.p (.bool false))) λwr=>k wr (bM A (refsA aes)) [])(a:cM A aes=some ps:=by rfl):gU P n o A k d f aes (some ps) e i:=by
 cases b with
 |true=>exact af h (h1 rfl) a
 |false=>exact af h (h2 rfl) a
section
variable{P:Program}{τ:Tau}{n:Nat}{A:AS}{K:Exit ->AS ->Prop}
theorem VCode.seq{a b:Code}(h:VCode P n a A (gx (λA'=>VCode P n b A' K) K)):VCode P n (.seq a b) A K:=by
 refine VCode.mk λw0 X C0 s w D=>?_;have y:=h.run w0 X C0 s w D;unfold EvCode at y ⊢;intro u E;refine wp_seq<|Go.wp_mono (y u E) λe F w' v=>?_;obtain⟨s',d,m,A',j,i⟩:=v;cases e with
 |normal=>
  have j:VCode P n b A' K:=j;have z:=j.run w0 X C0 s' w' i;unfold EvCode at z;refine Go.wp_mono (z F d) λe H I v=>?_;obtain⟨x,r,t,q⟩:=v;exact⟨x,r,t.trans m,q⟩
 |exit id=>exact⟨s',d,m,A',j,i⟩
 |goto l=>exact⟨s',d,m,A',j,i⟩
 |ret=>exact⟨s',d,m,A',j,i⟩
 |panic L=>exact⟨s',d,m,A',j,i⟩
 |outgrown=>exact⟨s',d,m,A',j,i⟩
theorem VCode.mono{c:Code}{i:Exit ->AS ->Prop}(h:VCode P n c A K)(l:∀e A w0 X C0 s w,K e A ->Rep w0 X C0 A s w ->∃A',i e A'/\Rep w0 X C0 A' s w):VCode P n c A i:=by
 refine VCode.mk λw0 X C0 s w m=>?_;have j:=h.run w0 X C0 s w m;unfold EvCode at j ⊢;intro a q;refine Go.wp_mono (j a q) λe v w' r=>?_;obtain⟨s',b,t,A',u,d⟩:=r;exact⟨s',b,t,l e A' _ _ _ _ _ u d⟩
theorem zi(i:aU P τ){a b:Code}{σ:Type}(I:σ ->AS)(M:σ ->Prop)(h1:vx P τ n a A (gx (λA'=>∃x f,M x/\Le f A' (I x)) K))(h2:∀x,M x ->VCode P n b (I x) K):VCode P n (.seq a b) A K:=by
 refine VCode.seq ((o4 i h1).mono λe A w0 X C0 s w d h=>?_);cases e with
 |normal=>
  obtain⟨x,f,j,m⟩:=d;exact⟨I x,h2 x j,h.le m⟩
 |exit id=>exact⟨A,d,h⟩
 |goto l=>exact⟨A,d,h⟩
 |ret=>exact⟨A,d,h⟩
 |panic q=>exact⟨A,d,h⟩
 |outgrown=>exact⟨A,d,h⟩
theorem KS(i:aU P τ){a b c:Code}{σ:Type}(I:σ ->AS)(M:σ ->Prop)(h1:vx P τ n (.seq a b) A (gx (λA'=>∃x f,M x/\Le f A' (I x)) K))(h2:∀x,M x ->VCode P n c (I x) K):VCode P n (.seq a (.seq b c)) A K:=by
 have h1:vx P τ n a A (gx (λA'=>vx P τ n b A' (gx (λA'=>∃x f,M x/\Le f A' (I x)) K)) (gx (λA'=>∃x f,M x/\Le f A' (I x)) K)):=h1;refine VCode.seq ((o4 i h1).mono λe A w0 X C0 s w d h=>?_);cases e with
 |normal=>exact⟨A,zi i I M d h2,h⟩
 |exit id=>exact⟨A,d,h⟩
 |goto l=>exact⟨A,d,h⟩
 |ret=>exact⟨A,d,h⟩
 |panic j=>exact⟨A,d,h⟩
 |outgrown=>exact⟨A,d,h⟩
theorem zj(t:aU P τ){c:Code}{σ:Type}(I:σ ->AS)(M:σ ->Prop)(μ:σ ->Nat)(x0:σ)(f:Nat ->Nat)(u:Le f A (I x0))(v:M x0)
  (cd:∀x,M x ->VCode P n c (I x) (gx (λA'=>∃y f,μ y<μ x/\M y/\Le f A' (I y)) K)):VCode P n (.loop c) A K:=by
 refine VCode.mk λw0 X C0 s w D=>?_;unfold EvCode;intro a E;refine wp_loop_ghost (λy a w=>M y/\∃s',Fr n a s'/\s'.d=s.d/\Rep w0 X C0 (I y) s' w) μ x0 ⟨v,s,E,rfl,D.le u⟩ ?_;rintro y a w ⟨F,s',q,j,r⟩;have:=cd y F
 replace this:=this.go
 have:=this w0 X C0 s' w r;unfold EvCode at this;refine Go.wp_mono (this a q) λe S w' H=>?_;obtain⟨i,b,d,A',m,h⟩:=H;cases e with
 |normal=>
  obtain⟨z,g,L,N,O⟩:=m;exact⟨z,⟨N,i,b,d.trans j,h.le O⟩,L⟩
 |exit id=>exact⟨i,b,d.trans j,A',m,h⟩
 |goto l=>exact⟨i,b,d.trans j,A',m,h⟩
 |ret=>exact⟨i,b,d.trans j,A',m,h⟩
 |panic T=>exact⟨i,b,d.trans j,A',m,h⟩
 |outgrown=>exact⟨i,b,d.trans j,A',m,h⟩
end
abbrev vI(n:Int):AV:=.c (.p (.int .i64 n))
abbrev vP(x:PV):AV:=.c (.p x)
abbrev pI(n:Int):PV:=.int .i64 n
theorem vi{r:Int}{k:Int ->Prop}(a:k r)(h1:-9223372036854775808<=r:=by first|omega|(simp only;omega))(h2:r<=9223372036854775807:=by first|omega|(simp only;omega)):nL .i64 r k:=gw h1 h2 a
theorem aF{τ:Tau}{A:AS}{rs:List ResultVar}{r:PV}{a:List AV}{ps:List PV}(h1:dT τ A rs=some a:=by exact rfl)(h2:cM A a=some ps:=by exact rfl)(h3:gs' ps=r:=by exact rfl):∃a ps,dT τ A rs=some a/\cM A a=some ps/\gs' ps=r:=⟨a,ps,h1,h2,h3⟩
theorem eP9{τ:Tau}{A:AS}{rs:List ResultVar}{r:PV}{T:Nat}{cs:List PV}{a:List AV}{ps:List PV}{ds:List AC}(h1:dT τ A rs=some a:=by exact rfl)(h2:cM A a=some ps:=by exact rfl)(h3:gs' ps=r:=by exact rfl)(h4:look A.m 0=some (.st 1 T ds):=by exact rfl)(b:jv ds=some cs:=by exact rfl):∃a ps ds,dT τ A rs=some a/\cM A a=some ps/\gs' ps=r/\look A.m 0=some (.st 1 T ds)/\jv ds=some cs:=⟨a,ps,ds,h1,h2,h3,h4,b⟩
theorem kA9{all:List Oper}{es:List En}{τ:Tau}{A:AS}{rs:List ResultVar}{r:PV}{a:List AV}{ps:List PV}(h1:dT τ A rs=some a:=by exact rfl)(h2:cM A a=some ps:=by exact rfl)(h3:gs' ps=r:=by exact rfl)(h:jW all es.reverse [] []=true:=by kernel_rfl):mM all es (∃a ps,dT τ A rs=some a/\cM A a=some ps/\gs' ps=r):=iF h ⟨a,ps,h1,h2,h3⟩
theorem kP9{all:List Oper}{es:List En}{τ:Tau}{A:AS}{rs:List ResultVar}{r:PV}{T:Nat}{cs:List PV}{a:List AV}{ps:List PV}{ds:List AC}(h1:dT τ A rs=some a:=by exact rfl)(h2:cM A a=some ps:=by exact rfl)(h3:gs' ps=r:=by exact rfl)(h4:look A.m 0=some (.st 1 T ds):=by exact rfl)(b:jv ds=some cs:=by exact rfl)(h:jW all es.reverse [] []=true:=by kernel_rfl):mM all es (∃a ps ds,dT τ A rs=some a/\cM A a=some ps/\gs' ps=r/\look A.m 0=some (.st 1 T ds)/\jv ds=some cs):=iF h ⟨a,ps,ds,h1,h2,h3,h4,b⟩
theorem dA{τ:Tau}{rs:List ResultVar}{p:PV}{m':List (Nat×SE)}{A:AS}{bs:List AV}{ps:List PV}(h1:dT τ A rs=some bs:=by exact rfl)(h2:cM A bs=some ps:=by exact rfl)(h3:gs' ps=p:=by exact rfl)(hm:lH id (A.upd [] (bM A (refsA bs))) m':=by repeat first|exact True.intro|refine And.intro rfl ?_)(hi:dc id (keysOf m')=true:=by exact rfl):qa τ rs (.c (.p p)) m' A:=.inl ⟨bs,ps,p,id,rfl,h1,h2,h3,hm,hi⟩
theorem eI9{τ:Tau}{A:AS}{rs:List ResultVar}{a b:Int}{d:List AV}{ps:List PV}(h:a=b)(h1:dT τ A rs=some d:=by exact rfl)(h2:cM A d=some ps:=by exact rfl)(h3:gs' ps= .int .i64 a:=by exact rfl):∃d ps,dT τ A rs=some d/\cM A d=some ps/\gs' ps= .int .i64 b:=⟨d,ps,h1,h2,h▸h3⟩
theorem vy{p:Prop} [Decidable p]{k:Bool ->Prop}(a:k true)(h:p:=by omega):jR p k:=ye h a
theorem vn{p:Prop} [Decidable p]{k:Bool ->Prop}(a:k false)(h:¬ p:=by omega):jR p k:=pS h a
theorem vk{all:List Oper}{es:List En}{k:Prop}(a:k)(h:jW all es.reverse [] []=true:=by kernel_rfl):mM all es k:=iF h a
theorem gW{all:List Oper}{es:List En}{k:List Oper ->Prop}(a:k (p9 ((all.drop es.length).map λ_=>true) (all.drop es.length)))(h:(kI (es.length-1) all []).drop es.length=p9 ((all.drop es.length).map λ_=>true) (all.drop es.length):=by kernel_rfl):zb all es k:=sf _ a h
theorem sr{P:Program}{T:Nat}{j:IntKind}{e:Int}{k:Prop}(h:∀w,(Instr.makeInterface T (.agg #[.int j e])).run P w= .ok (.iface T (.agg #[.int j e])) w)(a:k):rY P T j e k:=⟨h,a⟩
theorem aq{α β:Type}(f:α ->β)(l:List α):(l.map f).length=l.length:=KF _
theorem vm{α:Type}{p:α ->List PV}{l:List α}{sz:Nat}{i:Int}{k:Nat ->List PV ->Prop}(j:Nat){x:α}(a:l[j]?=some x)(b:k j (p x))(hi:i=(j:Int):=by first|rfl|omega)(hsz:(p x).length=sz:=by rfl):kD (l.map p) sz i k:=
 oR j (p x) hi (by rw[JX,a];rfl) hsz b
theorem va{α:Type}{p:α ->List PV}{l:List α}{sz bs m:Nat}{k:Prop}(a:k)(b:∀x∈l,(p x).length=sz/\∀q∈p x,q.one=true)(hb:m+l.length<=1000000000:=by first|omega|(simp[dp];omega))(d:bs<=1000:=by decide):rE sz bs m (l.map p) k:=by
 have i:(m+l.length)*bs<=1000000000*1000:=Nat.mul_le_mul hb d;refine⟨?_⟩;rw[KF];refine⟨Uo,KQ hb UO,λy e=>?_,a⟩;obtain⟨x,h,rfl⟩:=List.mem_map.1 e;exact b x h
theorem K0{l:List (List PV)}{m:Int}{k:Nat ->Prop}(i:Nat)(a:k i)(hm:m=(i:Int):=by first|rfl|omega)(b:0<i:=by omega)(h1:i<=100:=by omega)(hl:l.length<=1000000:=by first|omega|(simp;omega)):rF l m k:=⟨i,hm,b,h1,hl,a⟩
theorem bg{y:List PV}{sz bs m:Nat}{k:Prop}(a:k)(hl:y.length=sz:=by rfl)(b:y.all PV.one=true:=by rfl)(hb:m+1<=1000000000:=by first|omega|(simp[dp];omega))(d:bs<=1000:=by decide):rE sz bs m [y] k:=by
 have i:(m+1)*bs<=1000000000*1000:=Nat.mul_le_mul hb d;refine⟨by simpa using Uo,KQ hb UO,λz e=>?_,a⟩;obtain rfl:z=y:=by simpa using e
 exact⟨hl,λq h=>List.all_eq_true.1 b q h⟩
theorem bO{lo hi:Option Int}{l:List (List PV)}{sz:Nat}{k:Nat ->Nat ->Prop}(p q:Nat)(a:k p q)(hsz:∀x∈l,x.length=sz)(h1:match lo with
 |some x=>x=(p:Int)
 |none=>p=0:=by first|rfl|omega) (h2:match hi with
 |some x=>x=(q:Int)
 |none=>q=l.length:=by first|rfl|omega) (h3:p<=q:=by first|omega|(simp;omega)) (h4:q<=l.length:=by first|omega|(simp;omega)):uK lo hi l sz k:=⟨p,q,h1,h2,h3,h4,hsz,a⟩
section
variable{P:Program}{τ:Tau}{n:Nat}{A B:AS}{c:Code}{K:Exit ->AS ->Prop}
theorem vf {f : FuncId} {fn : Func} {ps : List PV} {r : PV} (n : Nat) (rs : List ResultVar) (a : aU P τ) (i : P.funcs[f]? = some fn) (h : vx P τ n c ⟨qT' ps 0, []⟩ (sj τ rs r)) (hb : fn.body = some c := by rfl) (j : fn.ntmps = n := by rfl) (b : fn.results.toList = rs := by rfl) (d : ps.length <= n := by exact QX rfl) (e : (fn.name == "runtime.NumGoroutine") = false := by decide) : VC P f ps r := sq n rs a i hb j b d e h
theorem cN {f : FuncId} {fn : Func} {ps : List PV} {r : PV} (n : Nat) (rs : List ResultVar) (a : aU P τ) (i : P.funcs[f]? = some fn) (h : VCode P n c ⟨qT' ps 0, []⟩ (sj τ rs r)) (hb : fn.body = some c := by rfl) (j : fn.ntmps = n := by rfl) (b : fn.results.toList = rs := by rfl) (d : ps.length <= n := by exact QX rfl) (e : (fn.name == "runtime.NumGoroutine") = false := by decide) : VC P f ps r := vg n rs a i hb j b d e h
theorem o6 {f : FuncId} {fn : Func} {ps : List PV} {e sz : Nat} {l : List (List PV)} (n : Nat) (rs : List ResultVar) (a : aU P τ) (j : P.funcs[f]? = some fn) (h : VCode P n c ⟨qT' ps 0, []⟩ (EB τ rs e sz l)) (hb : fn.body = some c := by rfl) (m : fn.ntmps = n := by rfl) (b : fn.results.toList = rs := by rfl) (d : ps.length <= n := by exact QX rfl) (i : (fn.name == "runtime.NumGoroutine") = false := by decide) : VO P f ps e sz l := KN n rs a j hb m b d i h
theorem cQ {f : FuncId} {fn : Func} {aes : List AV} {m : List (Nat × SE)} {r : Except (List PanicEntry) (AV × List (Nat × SE))} (n : Nat) (rs : List ResultVar) (a : aU P τ) (i : P.funcs[f]? = some fn) (h : VCode P n c ⟨kD' aes 0, m⟩ (sn τ rs r)) (hb : fn.body = some c := by rfl) (j : fn.ntmps = n := by rfl) (b : fn.results.toList = rs := by rfl) (d : aes.length <= n := by exact QX rfl) (e : (fn.name == "runtime.NumGoroutine") = false := by decide) : VG P f aes m r := o5 n rs a i hb j b d e h
theorem K1 {f : FuncId} {fn : Func} {ps : List PV} {T : Nat} {cs : List PV} (n : Nat) (rs : List ResultVar) (a : aU P τ) (i : P.funcs[f]? = some fn) (h : VCode P n c ⟨qT' ps 0, []⟩ (EC τ rs T cs)) (hb : fn.body = some c := by rfl) (j : fn.ntmps = n := by rfl) (b : fn.results.toList = rs := by rfl) (d : ps.length <= n := by exact QX rfl) (e : (fn.name == "runtime.NumGoroutine") = false := by decide) : VN P f ps T cs := KO n rs a i hb j b d e h
theorem o7 {f : FuncId} {fn : Func} {ps : List PV} {r : Except (List PanicEntry) PV} (n : Nat) (rs : List ResultVar) (a : aU P τ) (i : P.funcs[f]? = some fn) (h : VCode P n c ⟨qT' ps 0, []⟩ (ED τ rs r)) (hb : fn.body = some c := by rfl) (j : fn.ntmps = n := by rfl) (b : fn.results.toList = rs := by rfl) (d : ps.length <= n := by exact QX rfl) (e : (fn.name == "runtime.NumGoroutine") = false := by decide) : VX P f ps r := KP n rs a i hb j b d e h
theorem aX {f : FuncId} {fn : Func} {T : Nat} {cs ps : List PV} {r : Except (List PanicEntry) (List PV × PV)} (n : Nat) (rs : List ResultVar) (a : aU P τ) (i : P.funcs[f]? = some fn) (h : VCode P n c ⟨(0, .c (.ptr 0 0)) :: qT' ps 1, [(0, .st 1 T (cs.map .p))]⟩ (sp τ rs T r)) (hb : fn.body = some c := by rfl) (j : fn.ntmps = n := by rfl) (b : fn.results.toList = rs := by rfl) (d : ps.length + 1 <= n := by exact QX rfl) (e : (fn.name == "runtime.NumGoroutine") = false := by decide) : ju P f T cs ps r := KR n rs a i hb j b d e h
def qb(f:Nat ->Nat)(A l:List (Nat×AV)):Prop:=List.rec (motive:=λ_=>Prop) True (λp _ ih=>(look A p.1=some p.2/\p.2.ren f=p.2)/\ih) l
def su(f:Nat ->Nat)(A l:List (Nat×SE)):Prop:=List.rec (motive:=λ_=>Prop) True (λp _ ih=>(look A p.1=some p.2/\(f p.1=p.1/\p.2.ren f=p.2))/\ih) l
def sA(f:Nat ->Nat)(A l:List (Nat×AV)):Prop:=List.rec (motive:=λ_=>Prop) True (λp _ ih=>look A p.1=some (p.2.ren f)/\ih) l
def vh(f:Nat ->Nat)(A l:List (Nat×SE)):Prop:=List.rec (motive:=λ_=>Prop) True (λp _ ih=>look A (f p.1)=some (p.2.ren f)/\ih) l
structure LeQ(f:Nat ->Nat)(A:AS)(ch ce:List (Nat×AV))(bl cm:List (Nat×SE)):Prop where
 c:qb f A.e ce
 d:su f A.m cm
 x:sA f A.e ch
 y:vh f A.m bl
 i:dc f (keysOf (bl++cm))=true
theorem K2{f:Nat ->Nat}{A:AS}{l r:List (Nat×AV)}(h1:sA f A.e l)(h2:si f A r):si f A (l++r):=by
 induction l with
 |nil=>exact h2
 |cons p l a=>exact⟨h1.1,a h1.2⟩
theorem K3{f:Nat ->Nat}{A:AS}{l:List (Nat×AV)}(h1:qb f A.e l):si f A l:=by
 induction l with
 |nil=>exact VQ
 |cons p l a=>exact⟨by rw[h1.1.2];exact h1.1.1,a h1.2⟩
theorem K4{f:Nat ->Nat}{A:AS}{l r:List (Nat×SE)}(h1:vh f A.m l)(h2:lH f A r):lH f A (l++r):=by
 induction l with
 |nil=>exact h2
 |cons p l a=>exact⟨h1.1,a h1.2⟩
theorem K5{f:Nat ->Nat}{A:AS}{l:List (Nat×SE)}(h1:su f A.m l):lH f A l:=by
 induction l with
 |nil=>exact VQ
 |cons p l a=>exact⟨by rw[h1.1.2.1,h1.1.2.2];exact h1.1.1,a h1.2⟩
theorem LeQ.le{f:Nat ->Nat}{ch ce:List (Nat×AV)}{bl a:List (Nat×SE)}(h:LeQ f A ch ce bl a):Le f A ⟨ch++ce,bl++a⟩:=iG (K2 h.x (K3 h.c)) (K4 h.y (K5 h.d)) h.i
structure qd(σ:Type)(ch:σ ->List (Nat×AV))(bl:σ ->List (Nat×SE))(ce:List (Nat×AV))(cm:List (Nat×SE))(M:σ ->Prop)(m:σ ->Prop)(A:AS):Prop where
 go:∃y f,m y/\M y/\LeQ f A (ch y) ce (bl y) cm
theorem au{σ:Type}{ch:σ ->List (Nat×AV)}{bl:σ ->List (Nat×SE)}{ce:List (Nat×AV)}{a:List (Nat×SE)}{M m:σ ->Prop}(y:σ)(h:M y)(f:Nat ->Nat:=id)(hm:m y:=by first|exact VQ|(show _<_;omega))(c:qb f A.e ce:=by repeat first|exact VQ|refine And.intro ⟨rfl,rfl⟩ ?_)(d:su f A.m a:=by repeat first|exact VQ|refine And.intro ⟨rfl,rfl,rfl⟩ ?_)(x:sA f A.e (ch y):=by repeat first|exact VQ|refine And.intro rfl ?_)(y':vh f A.m (bl y):=by repeat first|exact VQ|refine And.intro rfl ?_|refine And.intro (KG (λl=>some (SE.rw _ _ l)) (by first|(simp;done)|(simp[dp];rfl))) ?_)(i:dc f (keysOf (bl y++a))=true:=by rfl):qd σ ch bl ce a M m A:=⟨y,f,hm,h,c,d,x,y',i⟩
theorem aB(b:aU P τ){σ:Type}(ce:List (Nat×AV))(a:List (Nat×SE))(ch:σ ->List (Nat×AV))(bl:σ ->List (Nat×SE))(M:σ ->Prop)(μ:σ ->Nat)(x0:σ)(i:M x0)(cd:∀x,M x ->VCode P n c ⟨ch x++ce,bl x++a⟩ (gx (qd σ ch bl ce a M λy=>μ y<μ x) K))(f:Nat ->Nat:=id)
  (c1:qb f A.e ce:=by repeat first|exact VQ|refine And.intro ⟨rfl,rfl⟩ ?_) (d1:su f A.m a:=by repeat first|exact VQ|refine And.intro ⟨rfl,rfl,rfl⟩ ?_) (x1:sA f A.e (ch x0):=by repeat first|exact VQ|refine And.intro rfl ?_) (y1:vh f A.m (bl x0):=by repeat first|exact VQ|refine And.intro rfl ?_) (j:dc f (keysOf (bl x0++a))=true:=by rfl):VCode P n (.loop c) A K:=
 zj b (λx=>⟨ch x++ce,bl x++a⟩) M μ x0 f (LeQ.le ⟨c1,d1,x1,y1,j⟩) i λx l=>(cd x l).mono λe A w0 X C0 s w d h=>by
  cases e with
  |normal=>
   obtain⟨y,f,m,q,r⟩:=(show qd σ ch bl ce a M (λy=>μ y<μ x) A from d).go;exact⟨A,⟨y,f,m,q,r.le⟩,h⟩
  |_=>exact⟨A,d,h⟩
theorem vl(a:aU P τ){σ:Type}(ce:List (Nat×AV))(ch:σ ->List (Nat×AV))(M:σ ->Prop)(μ:σ ->Nat)(x0:σ)(b:M x0)(cd:∀x,M x ->vx P τ n c ⟨ch x++ce,[]++[]⟩ (gx (qd σ ch (λ_=>[]) ce [] M λy=>μ y<μ x) K))
  (c1:qb id A.e ce:=by repeat first|exact VQ|refine And.intro ⟨rfl,rfl⟩ ?_) (x1:sA id A.e (ch x0):=by repeat first|exact VQ|refine And.intro rfl ?_):VCode P n (.loop c) A K:=
 aB a ce [] ch (λ_=>[]) M μ x0 b (λx d=>o4 a (cd x d)) id c1 VQ x1 VQ rfl
theorem VCode.blk{id:Nat}{x:Code}(h:VCode P n x A (sg id K)):VCode P n (.block id x) A K:=by
 refine VCode.mk λw0 X C0 s w t=>?_;have r:=h.run w0 X C0 s w t;unfold EvCode at r ⊢;intro a u;refine wp_block (Go.wp_mono (r a u) λe y w' v=>?_);obtain⟨s',b,m,A',i,d⟩:=v;cases e with
 |normal=>exact⟨s',b,m,A',i,d⟩
 |exit j=>
  simp only[Exit.inBlock];simp only[sg]at i
  by_cases q:j=id
  ·subst q
   rw[KX rfl];rw[Nat.beq_refl]at i;exact⟨s',b,m,A',i,d⟩
  ·rw[KY q]
   have:Nat.beq j id=false:=by
    cases hb:Nat.beq j id with
    |true=>exact absurd (QJ hb) q
    |false=>rfl
   rw[this]at i;exact⟨s',b,m,A',i,d⟩
 |goto l=>exact⟨s',b,m,A',i,d⟩
 |ret=>exact⟨s',b,m,A',i,d⟩
 |panic z=>exact⟨s',b,m,A',i,d⟩
 |outgrown=>exact⟨s',b,m,A',i,d⟩
theorem K6(d:aU P τ){a b:Code}(h:vx P τ n a A (gx (λA'=>VCode P n b A' K) K)):VCode P n (.seq a b) A K:=VCode.seq (o4 d h)
theorem aj{n:Nat}{A:AS}{K:Exit ->AS ->Prop}{c:Code}(h:vx Go.Proofs.Tryz.prog Go.Q.τ n c A K):VCode Go.Proofs.Tryz.prog n c A K:=o4 Go.Q.τok h
theorem aD{n:Nat}{A:AS}{K:Exit ->AS ->Prop}{a b:Code}(h:vx Go.Proofs.Tryz.prog Go.Q.τ n a A (gx (λA'=>VCode Go.Proofs.Tryz.prog n b A' K) K)):VCode Go.Proofs.Tryz.prog n (.seq a b) A K:=K6 Go.Q.τok h
theorem dd(j:aU P τ){a b:Code}{σ:Type}(ce:List (Nat×AV))(i:List (Nat×SE))(ch:σ ->List (Nat×AV))(bl:σ ->List (Nat×SE))(M:σ ->Prop)(h1:vx P τ n a A (gx (qd σ ch bl ce i M λ_=>True) K))(h2:∀x,M x ->VCode P n b ⟨ch x++ce,bl x++i⟩ K)
  (c1:qb id A.e ce:=by repeat first|exact VQ|refine And.intro ⟨rfl,rfl⟩ ?_) (d1:su id A.m i:=by repeat first|exact VQ|refine And.intro ⟨rfl,rfl,rfl⟩ ?_):VCode P n (.seq a b) A K:=by
 refine VCode.seq ((o4 j h1).mono λe A w0 X C0 s w d h=>?_);cases e with
 |normal=>
  obtain⟨x,f,_,m,q⟩:=(show qd σ ch bl ce i M (λ_=>True) A from d).go;exact⟨_,h2 x m,h.le q.le⟩
 |exit id=>exact⟨A,d,h⟩
 |goto l=>exact⟨A,d,h⟩
 |ret=>exact⟨A,d,h⟩
 |panic ch=>exact⟨A,d,h⟩
 |outgrown=>exact⟨A,d,h⟩
end
section
variable{P:Program}{τ:Tau}{n:Nat}{A:AS}{K:Exit ->AS ->Prop}{c:Code}
theorem nT(t k:Nat){e sz:Nat}{l:List (List PV)}(h:VCode P n c ((A.upd [] (bM A [k])).upd [(t,.c (.p (.sl l)))] []) K)(m:look A.e t=some (.c (.row k)):=by rfl)(d:look A.m k=some (.rw e sz l):=by rfl):VCode P n c A K:=by
 refine h.of λw0 X C0 s w ⟨C,ρ,i⟩=>?_;obtain⟨v,q,a⟩:=i.slot t _ m (λj r=>⟨.rw e sz l,by
  have u:j=k:=by simpa[AV.refs,AC.refs]using r
  subst u;exact d,rfl⟩)
 obtain⟨C',x,D,y⟩:=i.frz [k] λ_ _=>rfl;have z:=y k Ud l (.inl ⟨e,sz,d⟩);have a:v=ρ k:=a;subst a;refine⟨C',ρ,x.slots (wr:=[(t,.c (.p (.sl l)))]) (λE b hb _=>?_) λ_ _=>rfl⟩;obtain⟨rfl,rfl⟩:=bU hb;exact⟨_,q,z⟩
theorem mN(j i k:Nat){e sz T:Nat}{v:Nat}{cs:List AC}{l:List (List PV)}(h:VCode P n c ((A.upd [] (bM A [k])).upd [] [(j,.st v T (cs.set i (.p (.sl l))))]) K)(M:look A.m j=some (.st v T cs):=by rfl)(hi:cs[i]?=some (.row k):=by rfl)(E:look A.m k=some (.rw e sz l):=by rfl)(y:k≠j:=by decide):VCode P n c A K:=by
 refine h.of λw0 X C0 s w ⟨C,ρ,N⟩=>?_;obtain⟨C',F,h2,O⟩:=N.frz [k] λ_ _=>rfl;have S:=O k Ud l (.inl ⟨e,sz,E⟩);have r:look (A.upd [] (bM A [k])).m j=some (.st v T cs):=by
  show look (bM A [k]++A.m) j=_;rw[rx]
  ·exact M
  ·cases U:look (bM A [k]) j with
   |none=>rfl
   |some x=>
    obtain⟨V,_⟩:=lD U;exact absurd (by simpa using V) (Ne.symm y)
 obtain⟨b,W,Y,Z,g3,g4,H⟩:=F.ent j _ r;have D:Lv (A.upd [] (bM A [k])) (AC.row k).refs:=λz hz=>by
  have ez:z=k:=by simpa[AC.refs]using hz
  subst ez;exact⟨.fz l,by
   show look (bM A [z]++A.m) z=_;rw[lC,yq Ud E],rfl⟩
 exact⟨C',_,F.modSt (wr:=[]) (cs':=cs.set i (.p (.sl l))) (us':=W) r Y ((Kp.refl [] w).weak Ud) Z (by simpa using g4) (λq c u d I=>by
  rw[List.getElem?_set]at d
  by_cases L:i=q
  ·subst L
   simp only[if_true]at d;split at d
   ·obtain rfl:=JB d
    obtain⟨o1,o2⟩:=H i _ u hi I;refine⟨o1,λ_=>?_⟩;have hr:u=ρ k:=o2 D;rw[hr];exact S
   ·cases d
  ·rw[KY L]at d
   exact H q c u d I) (s':=s) (λt a ha=>by cases ha) (λ_ _=>rfl)⟩
end
end Go.Wx
namespace Go.Q
def ndP(x:Nd):List PV:=[.int .i64 x.op,.int .i64 x.a,.int .i64 x.b]
def ah(l:List Nd):PV:=.sl (l.map ndP)
def bG(ls:List (List Nd)):PV:=.sl (ls.map λt=>[ah t])
def orP(x:aV):List PV:=[.int .i64 x.low,.int .i64 x.add,.int .i64 x.high]
def prP(x:Int×Int):List PV:=[.int .i64 x.1,.int .i64 x.2]
def bA(c:dy):List PV:=[bG c.args,bG c.out]
def bI(x:cf):List PV:=[.int .i64 x.kind,ah x.sort,bG x.params,bG x.indices,.sl (x.ctors.map bA),ah x.type,ah x.body]
def o8(B:ak):List PV:=[.int .i64 B.vars,.sl (B.orders.map orP),.sl (B.ents.map bI),.int .i64 B.nat,.sl (B.prims.map prP)]
def bk(B:ak):PV:=.agg (o8 B)
def bdP(x:List Nd×List Nd):List PV:=[ah x.1,ah x.2]
def aO(c:List (List Nd×List Nd)):PV:=.sl (c.map bdP)
def mO{α:Type}(R:Rd α)(p:α ->List PV):Prop:=∀C cs x,R.den C cs x ->cs.length=(p x).length/\∀(i:Nat) y u,(p x)[i]?=some y ->cs[i]?=some u ->RV C y u
theorem SV.rv{α:Type}{R:Rd α}{p:α ->List PV}(he:mO R p){C:Mem}{l:List α}{v:Value}(h:SV R C l v):RV C (.sl (l.map p)) v:=by
 obtain⟨a,c,rfl,H,I⟩:=h;rcases H.2 with L|⟨b,o,rfl,M⟩
 ·have:l=[]:=List.length_eq_zero_iff.1 L
  subst this;exact .nil a c
 ·have t:∀i:Nat,∃f:Nat ->Value,∀x,l[i]?=some x ->(p x).length=R.sz/\∀(j:Nat) y,(p x)[j]?=some y ->C b (o+i*R.sz+j) (f j)/\RV C y (f j):=λi=>by
   cases d:l[i]? with
   |none=>exact⟨λ_=>undef,λx h=>by cases h⟩
   |some x=>
    obtain⟨q,F,N⟩:=M i x d;obtain⟨T,O⟩:=he C q x F;have U:=R.len F;refine⟨λj=>q.getD j undef,λz m=>?_⟩;obtain rfl:=JB m;refine⟨Uo,λj y r=>?_⟩;have V:=aL r;have u:q[j]?=some q[j]:=gE;have e:q.getD j undef=q[j]:=by simp[QK,u]
    show C b (o+i*R.sz+j) (q.getD j undef)/\RV C y (q.getD j undef);rw[e];exact⟨N j _ u,O j y _ r u⟩
  obtain⟨f,D⟩:=Classical.axiomOfChoice t;have E:∀(i:Nat) x,(l.map p)[i]?=some x ->∃z,l[i]?=some z/\x=p z:=λi x d=>by
   rw[JX]at d;cases m:l[i]? with
   |none=>rw[m]at d;cases d
   |some z=>rw[m]at d;exact⟨z,rfl,(JB d).symm⟩
  have:=RV.sl (C:=C) (l.map p) R.sz b o c f (λx d=>by
   obtain⟨i,S⟩:=JH d;obtain⟨z,m,rfl⟩:=E i x S;exact(D i z m).1) (by simpa using I) (λi j x y d r=>by
   obtain⟨z,m,rfl⟩:=E i x d;exact((D i z m).2 j y r).1) λi j x y d r=>by
   obtain⟨z,m,rfl⟩:=E i x d;exact((D i z m).2 j y r).2
  rwa [KF]at this
theorem vj{α:Type}{R:Rd α}{p:α ->List PV}(he:mO R p):mO (gJ R) λl=>[.sl (l.map p)]:=λC q x ⟨a,b,e,j,m⟩=>by
 subst e;refine⟨rfl,λi y u d h=>?_⟩
 match i,d,h with
 |0,d,h=>
  obtain rfl:=JB d;obtain rfl:=JB h;exact SV.rv he ⟨a,b,rfl,m,j⟩
theorem iM':mO rNd ndP:=λC d x ⟨e,_⟩=>by
 subst e;refine⟨rfl,λi y u a b=>?_⟩
 match i,a,b with
 |0,a,b=>obtain rfl:=JB a;obtain rfl:=JB b;exact .int _ _
 |1,a,b=>obtain rfl:=JB a;obtain rfl:=JB b;exact .int _ _
 |2,a,b=>obtain rfl:=JB a;obtain rfl:=JB b;exact .int _ _
theorem Eq':mO rOr orP:=λC d x ⟨e,_⟩=>by
 subst e;refine⟨rfl,λi y u a b=>?_⟩
 match i,a,b with
 |0,a,b=>obtain rfl:=JB a;obtain rfl:=JB b;exact .int _ _
 |1,a,b=>obtain rfl:=JB a;obtain rfl:=JB b;exact .int _ _
 |2,a,b=>obtain rfl:=JB a;obtain rfl:=JB b;exact .int _ _
theorem Er':mO rPr prP:=λC d x ⟨e,_⟩=>by
 subst e;refine⟨rfl,λi y u a b=>?_⟩
 match i,a,b with
 |0,a,b=>obtain rfl:=JB a;obtain rfl:=JB b;exact .int _ _
 |1,a,b=>obtain rfl:=JB a;obtain rfl:=JB b;exact .int _ _
theorem Es':mO rCt bA:=λC j x ⟨v,u,e,d,h⟩=>by
 subst e;refine⟨rfl,λi y z a b=>?_⟩
 match i,a,b with
 |0,a,b=>obtain rfl:=JB a;obtain rfl:=JB b;exact d.rv (vj iM')
 |1,a,b=>obtain rfl:=JB a;obtain rfl:=JB b;exact h.rv (vj iM')
theorem Et':mO rEn bI:=λC r x ⟨t,u,v,D,E,F,e,H,d,h,j,l,m,q⟩=>by
 subst e;refine⟨rfl,λi y z a b=>?_⟩
 match i,a,b with
 |0,a,b=>obtain rfl:=JB a;obtain rfl:=JB b;exact .int _ _
 |1,a,b=>obtain rfl:=JB a;obtain rfl:=JB b;exact d.rv iM'
 |2,a,b=>obtain rfl:=JB a;obtain rfl:=JB b;exact h.rv (vj iM')
 |3,a,b=>obtain rfl:=JB a;obtain rfl:=JB b;exact j.rv (vj iM')
 |4,a,b=>obtain rfl:=JB a;obtain rfl:=JB b;exact l.rv Es'
 |5,a,b=>obtain rfl:=JB a;obtain rfl:=JB b;exact m.rv iM'
 |6,a,b=>obtain rfl:=JB a;obtain rfl:=JB b;exact q.rv iM'
theorem BoV.rv{C:Mem}{B:ak}{v:Value}(h:BoV C B v):RV C (bk B) v:=by
 obtain⟨d,e,j,rfl,l,m,q⟩:=h;refine .agg _ [.int .i64 B.vars,d,e,.int .i64 B.nat,j] rfl λi y z a b=>?_
 match i,a,b with
 |0,a,b=>obtain rfl:=JB a;obtain rfl:=JB b;exact .int _ _
 |1,a,b=>obtain rfl:=JB a;obtain rfl:=JB b;exact l.rv Eq'
 |2,a,b=>obtain rfl:=JB a;obtain rfl:=JB b;exact m.rv Et'
 |3,a,b=>obtain rfl:=JB a;obtain rfl:=JB b;exact .int _ _
 |4,a,b=>obtain rfl:=JB a;obtain rfl:=JB b;exact q.rv Er'
def lI(l:List (List Nd)):Prop:=l.length<=1000000/\∀t∈l,t.length<=1000000
structure qe(x:cf):Prop where
 s:x.sort.length<=1000000
 t:x.type.length<=1000000
 b:x.body.length<=1000000
 p:lI x.params
 i:lI x.indices
 c:x.ctors.length<=1000000
 a:∀c∈x.ctors,lI c.args/\lI c.out
structure dh(B:ak):Prop where
 o:B.orders.length<=1000000
 p:B.prims.length<=1000000
 e:B.ents.length<=1000000
 x:∀x∈B.ents,qe x
def GL{α:Type}(g:α ->Prop)(l:List α):Prop:=l.length<=1099511627776/\∀x∈l,g x
structure Br2{α:Type}(R:Rd α)(p:α ->List PV)(g:α ->Prop):Prop where
 sz:∀x,(p x).length=R.sz
 bme:∀x,g x ->∀C cs,cs.length=(p x).length ->(∀(i:Nat) y u,(p x)[i]?=some y ->cs[i]?=some u ->RV C y u) ->R.den C cs x
 good:∀C cs x,R.den C cs x ->g x
section
variable{α:Type}{R:Rd α}{p:α ->List PV}{g:α ->Prop}(hb:Br2 R p g)
include hb
theorem Br2.sl{C:Mem}{l:List α}{v:Value}(r:GL g l)(h:RV C (.sl (l.map p)) v):SV R C l v:=by
 obtain⟨m,r⟩:=r
 generalize E:l.map p=L at h
 cases h with
 |nil a c=>
  obtain rfl:l=[]:=List.map_eq_nil_iff.1 E;exact⟨a,c,rfl,⟨KV _,.inl rfl⟩,KV _⟩
 |sl _ M b o c f t F e z=>
  subst E;rw[KF]at F ⊢;refine⟨_,c,rfl,⟨m,.inr ⟨b,o,rfl,λi x H=>?_⟩⟩,F⟩;have D:(l.map p)[i]?=some (p x):=by rw[JX,H];rfl
  have N:=t (p x) (JQ D);have O:=hb.sz x;refine⟨(List.range (p x).length).map (f i),hb.bme x (r x (JQ H)) C _ Ud (λj y u I d=>?_),λj u d=>?_⟩
  ·rw[JX]at d
   have q:=aL I;rw[List.getElem?_range q]at d;obtain rfl:=JB d;exact z i j _ y D I
  ·rw[JX]at d
   have q:j<(p x).length:=by
    have:=aL (l:=((List.range (p x).length).map (f i))) (by rw[JX];exact d)
    simpa using this
   rw[List.getElem?_range q]at d;obtain rfl:=JB d;have:=e i j _ (p x)[j] D (List.getElem?_eq_getElem q);rw[show R.sz=M by omega];exact this
theorem Br2.gl{C:Mem}{l:List α}{v:Value}(h:SV R C l v):GL g l:=by
 obtain⟨a,c,_,⟨e,j⟩,_⟩:=h;refine⟨e,λx m=>?_⟩;obtain⟨i,d⟩:=JH m;have:=aL d;obtain⟨b,o,_,q⟩:=j.resolve_left Uo;obtain⟨t,r,_⟩:=q i x d;exact hb.good _ _ _ r
theorem Br2.sk:Br2 (gJ R) (λl=>[.sl (l.map p)]) (GL g):=⟨λ_=>rfl,λx d C b i h=>by
 match b,i with
 |[v],_=>
  obtain⟨j,m,rfl,q,r⟩:=hb.sl d (h 0 _ v rfl rfl);exact⟨j,m,rfl,r,q⟩,λC b x ⟨a,c,e,t,u⟩=>hb.gl (v:=.slice a x.length c) ⟨a,c,rfl,u,t⟩⟩
end
theorem fK{C:Mem}{n:Int}{v:Value}(h:RV C (.int .i64 n) v):v= .int .i64 n:=by cases h;rfl
theorem br_nd:Br2 rNd ndP (λx=>I64 x.op/\I64 x.a/\I64 x.b):=⟨λ_=>rfl,λx d C e i h=>by
 match e,i with
 |[a,b,c],_=>exact⟨by rw[fK (h 0 _ a rfl rfl),fK (h 1 _ b rfl rfl),fK (h 2 _ c rfl rfl)],d⟩,λ_ _ _ h=>h.2⟩
theorem br_or:Br2 rOr orP (λx=>I64 x.low/\I64 x.add/\I64 x.high):=⟨λ_=>rfl,λx d C e i h=>by
 match e,i with
 |[a,b,c],_=>exact⟨by rw[fK (h 0 _ a rfl rfl),fK (h 1 _ b rfl rfl),fK (h 2 _ c rfl rfl)],d⟩,λ_ _ _ h=>h.2⟩
theorem br_pr:Br2 rPr prP (λx=>I64 x.1/\I64 x.2):=⟨λ_=>rfl,λx d C e i h=>by
 match e,i with
 |[a,b],_=>exact⟨by rw[fK (h 0 _ a rfl rfl),fK (h 1 _ b rfl rfl)],d⟩,λ_ _ _ h=>h.2⟩
abbrev mP(x:Nd):Prop:=I64 x.op/\I64 x.a/\I64 x.b
abbrev EF(x:dy):Prop:=GL (GL mP) x.args/\GL (GL mP) x.out
theorem br_ct:Br2 rCt bA EF:=⟨λ_=>rfl,λx d C e i h=>by
 match e,i with
 |[a,b],_=>exact⟨a,b,rfl,br_nd.sk.sl d.1 (h 0 _ a rfl rfl),br_nd.sk.sl d.2 (h 1 _ b rfl rfl)⟩,λ_ _ _ ⟨_,_,_,j,l⟩=>⟨br_nd.sk.gl j,br_nd.sk.gl l⟩⟩
abbrev EG(x:cf):Prop:=I64 x.kind/\GL mP x.sort/\GL (GL mP) x.params/\GL (GL mP) x.indices/\GL EF x.ctors/\GL mP x.type/\GL mP x.body
theorem br_en:Br2 rEn bI EG:=⟨λ_=>rfl,λx ⟨i,j,l,m,q,r,t⟩ C u v h=>by
 match u,v with
 |[a,b,c,d,e,f,g],_=>
  exact⟨b,c,d,e,f,g,by rw[fK (h 0 _ a rfl rfl)],i,br_nd.sl j (h 1 _ b rfl rfl),br_nd.sk.sl l (h 2 _ c rfl rfl),br_nd.sk.sl m (h 3 _ d rfl rfl),br_ct.sl q (h 4 _ e rfl rfl),br_nd.sl r (h 5 _ f rfl rfl),br_nd.sl t (h 6 _ g rfl rfl)⟩,λ_ _ _ ⟨_,_,_,_,_,_,_,i,j,l,m,q,r,t⟩=>⟨i,br_nd.gl j,br_nd.sk.gl l,br_nd.sk.gl m,br_ct.gl q,br_nd.gl r,br_nd.gl t⟩⟩
def BoI(B:ak):Prop:=GL (λx:aV=>I64 x.low/\I64 x.add/\I64 x.high) B.orders/\GL EG B.ents/\GL (λx:Int×Int=>I64 x.1/\I64 x.2) B.prims
theorem BoV.boi{C:Mem}{B:ak}{v:Value}(h:BoV C B v):BoI B:=by
 obtain⟨_,_,_,_,a,b,d⟩:=h;exact⟨br_or.gl a,br_en.gl b,br_pr.gl d⟩
theorem EH{n:Nd}(h:aw n=true):I64 n.op/\I64 n.a/\I64 n.b:=by
 have hb:=dn h;have a:0<=n.op/\n.op<=13:=by
  simp only[aw]at h
  repeat' split at h
  all_goals first|omega|contradiction
 exact⟨⟨Uo,Uo⟩,⟨Uo,Uo⟩,⟨Uo,Uo⟩⟩
mutual
theorem zo':∀(x:Tr) (s:Md),Ok s x ->∀m∈row x,aw m=true
 | .mk n ks,s,h,m,hm=>by
  obtain⟨h1,h2,h3⟩:=h.kids;rcases List.mem_cons.1 (show m∈n::rows ks from hm)with rfl|hm
  ·cases s<;>simp only[cnt]at h1<;>split at h1<;>simp_all
  ·exact uk' ks n s 0 h2 h3 m hm
theorem uk':∀(ks:List Tr) (n:Nd) (s:Md) (j:Nat),bH cnt nx ks n s j ->eV' ks=true ->∀m∈rows ks,aw m=true
 |[],_,_,_,_,_,m,hm=>by simp[rows]at hm
 |x::r,n,s,j,h,hi,m,hm=>by
  have h1:=h.1;simp only[eV',Bool.and_eq_true]at hi;rcases List.mem_append.1 (show m∈row x++rows r from hm)with hm|hm
  ·exact zo' x _ ⟨h1,hi.1⟩ m hm
  ·exact uk' r n s _ h.2 hi.2 m hm
end
theorem K7{x:Tr}(a:Ok .tm x)(hl:(row x).length<=4096):GL mP (row x):=⟨Uo,λm b=>EH (zo' x _ a m b)⟩
theorem K8{C:Mem}{ys:List Tr}{v:Value}(b:∀y∈ys,Ok .tm y/\(row y).length<=4096)(hl:ys.length<=1000000)(h:RV C (bG (ys.map row)) v):TmsV C ys v:=TmsV.sv.2 (br_nd.sk.sl ⟨by rw[KF];omega,λl hl=>by
 obtain⟨y,a,rfl⟩:=List.mem_map.1 hl;exact K7 (b y a).1 (b y a).2⟩ h)
theorem K9{C:Mem}{w w':World}(a:Sub C w)(k:Kp [] w w'):rB C w (Cn C w w') w':=⟨Cn.sub a k,λ_ _ _ h=>.inl h,λb o v h=>h.imp (λq=>⟨_,_,q⟩) λq=>q.1,k⟩
theorem La{P:Program}{f:FuncId}{ps:List PV}{r:PV}(a:dO P f)(h:∀(w:World) (C:Mem) (vs:List Value),Sub C w ->(∀b o v,C b o v ->b<w.heap.size) ->db C ps vs ->Calls P f vs.toArray w λe w'=>(∃v,e= .returned v/\RV (Cn C w w') r v)/\Kp [] w w'):VC P f ps r:=.of ⟨a,λw C vs d i=>(h w C vs d (λb o v h=>(d b o v h).lt) i).mono λe w' ⟨⟨v,j,l⟩,k⟩=>⟨v,_,j,l,K9 d k⟩⟩
theorem EI{C:Mem}{p:PV}{vs:List Value}(h:db C [p] vs):∃v,vs=[v]/\RV C p v:=by
 obtain⟨a,b⟩:=h
 match vs,a with
 |[v],_=>exact⟨v,rfl,b 0 _ v rfl rfl⟩
theorem zk{C:Mem}{p q:PV}{vs:List Value}(h:db C [p,q] vs):∃v u,vs=[v,u]/\RV C p v/\RV C q u:=by
 obtain⟨b,a⟩:=h
 match vs,b with
 |[v,u],_=>exact⟨v,u,rfl,a 0 _ v rfl rfl,a 1 _ u rfl rfl⟩
theorem Lb{C:Mem}{p q:PV}{v u:Value}(h1:RV C p v)(h2:RV C q u):RV C (.tup [p,q]) (.tuple #[v,u]):=.tup _ [v,u] rfl λi y z a b=>by
 match i,a,b with
 |0,a,b=>obtain rfl:=JB a;obtain rfl:=JB b;exact h1
 |1,a,b=>obtain rfl:=JB a;obtain rfl:=JB b;exact h2
mutual
def trP:Tr ->List PV
 | .mk n ks=>[.int .i64 n.op,.int .i64 n.a,.int .i64 n.b,.sl (if n.op=2 then []else if n.op=12 then trF ks else trL ks),.sl (if n.op=2 then ks.map λy=>ndP y.n else []),.sl (if n.op=12 then ks.map λy=>ndP y.n else [])]
def trL:List Tr ->List (List PV)
 |[]=>[]
 |x::r=>trP x::trL r
def trF:List Tr ->List (List PV)
 |[]=>[]
 | .mk _ ks::r=>trL ks++trF r
end
theorem um':∀l:List Tr,trL l=l.map trP
 |[]=>by simp[trL]
 |x::r=>by simp[trL,um' r]
theorem zq':∀l:List Tr,trF l=(l.flatMap (·.ks)).map trP
 |[]=>by simp[trF]
 | .mk n ks::r=>by simp[trF,zq' r,um',Tr.ks]
def atmsT(x:Tr):List Nd:=if x.n.op=2 then x.ks.map (·.n)else []
def funsT(x:Tr):List Nd:=if x.n.op=12 then x.ks.map (·.n)else []
def fL(n:Nd)(K A F:List (List PV)):List PV:=[.int .i64 n.op,.int .i64 n.a,.int .i64 n.b,.sl K,.sl A,.sl F]
theorem kK(x:Tr):trP x=fL x.n ((kidsT x).map trP) ((atmsT x).map ndP) ((funsT x).map ndP):=by
 obtain⟨n,d⟩:=x;simp only[trP,fL,Tr.n,kidsT,atmsT,funsT,um',zq',Tr.ks]
 by_cases b:n.op=2
 ·simp[b]
 ·by_cases a:n.op=12
  ·simp[a]
  ·simp[b,a]
def ec(x:Tr):List PV:=fL x.n ((kidsT x).map trP) ((atmsT x).map ndP) ((funsT x).map ndP)
def bB(x:Tr):PV:=.agg (ec x)
def nU(l:List Tr):PV:=.sl (l.map trP)
theorem jd(n lo hi:Int):VC prog 120 [.int .i64 n,.int .i64 lo,.int .i64 hi] (.bool (aI n lo hi)):=by
 refine sq 15 [.tmp 6] τok func120 rfl rfl rfl (QX rfl) UO<|ae (λg=>?_) (λg=>?_)
 ·refine ry ?_
  exact aF (h3:=by rw[aI,KU g];rfl)
 ·exact aF (h3:=by rw[aI,KH g];rfl)
def bD(n:Nd):Int:=if n.op=4 \/n.op=5 \/n.op=6 then 2 else if n.op=7 then 3 else if n.op=11 then IntKind.i64.wrap (2+n.b)else if n.op=12 then IntKind.i64.wrap (2*n.b)else 0
def aH(n:Nd):Bool:=aw n && (decide (n.op≠3) && decide (n.op≠13))
theorem Lc(op a b:Int):VC prog 119 [.agg [.int .i64 op,.int .i64 a,.int .i64 b]] (.tup [.int .i64 (bD ⟨op,a,b⟩),.bool (aH ⟨op,a,b⟩)]):=by
 have h:∀{x y:Int} {p q:Bool},x=y ->p=q ->gs' [(PV.int .i64 x).nz,(PV.bool p).nz]= .tup [.int .i64 y,.bool q]:=λr t=>by rw[r,t];rfl
 have d:(decide (a=0)||decide (a=1))=aI a 0 1:=by rw[Bool.eq_iff_iff];simp[aI];omega
 refine vg 93 [.tmp 2,.tmp 3] τok func119 rfl rfl rfl (QX rfl) UO<|KS τok (σ:=Bool) (λz=>⟨[(1,.c (.ptr 1 0)),(4,.c (.p (.bool z)))],[(1,.st 0 47 [.p (.int .i64 op),.p (.int .i64 a),.p (.int .i64 b)])]⟩) (λz=>z=(decide (a=0) && decide (b=0))) ?_ ?_
 ·refine ae (λu=>?_) (λu=>?_)
  ·refine ry ?_
   exact⟨_,id,by rw[KU u];rfl,iG ⟨rfl,rfl,trivial⟩ ⟨rfl,trivial⟩ rfl⟩
  ·exact⟨_,id,by rw[KH u];rfl,iG ⟨rfl,rfl,trivial⟩ ⟨rfl,trivial⟩ rfl⟩
 rintro z L;refine aj<|ae (λr=>?_) (λr=>?_)
 ·subst r
  refine bN (jd _ _ _) (λq=>?_) (λq=>?_)
  ·exact ry (iF UD ⟨_,_,rfl,rfl,h (by simp[bD, *]) (by first|(simp[aH,aw,d, *];done)|(simp[aH,aw, *];omega)|(simp_all [aH,aw];done)|(simp_all [aH,aw,aI];done)|(by_cases i:op=3<;>by_cases e:op=13<;>simp_all [aH,aw]))⟩)
  ·exact iF UD ⟨_,_,rfl,rfl,h (by simp[bD, *]) (by first|(simp[aH,aw,d, *];done)|(simp[aH,aw, *];omega)|(simp_all [aH,aw];done)|(simp_all [aH,aw,aI];done)|(by_cases i:op=3<;>by_cases e:op=13<;>simp_all [aH,aw]))⟩
 ·refine ae (λt=>?_) (λt=>?_)
  ·subst t
   refine bN (jd _ _ _) (λq=>?_) (λq=>?_)
   ·exact af (jd _ _ _) ⟨_,_,rfl,rfl,h (by simp[bD, *]) (by first|(simp[aH,aw,d, *];done)|(simp[aH,aw, *];omega)|(simp_all [aH,aw];done)|(simp_all [aH,aw,aI];done)|(by_cases i:op=3<;>by_cases e:op=13<;>simp_all [aH,aw]))⟩
   ·exact⟨_,_,rfl,rfl,h (by simp[bD, *]) (by first|(simp[aH,aw,d, *];done)|(simp[aH,aw, *];omega)|(simp_all [aH,aw];done)|(simp_all [aH,aw,aI];done)|(by_cases i:op=3<;>by_cases e:op=13<;>simp_all [aH,aw]))⟩
  ·refine ae (λE=>?_) (λE=>?_)
   ·exact⟨_,_,rfl,rfl,h (by simp[bD, *]) (by first|(simp[aH,aw,d, *];done)|(simp[aH,aw, *];omega)|(simp_all [aH,aw];done)|(simp_all [aH,aw,aI];done)|(by_cases i:op=3<;>by_cases e:op=13<;>simp_all [aH,aw]))⟩
   ·refine ae (λF=>?_) (λF=>?_)
    ·exact⟨_,_,rfl,rfl,h (by simp[bD, *]) (by first|(simp[aH,aw,d, *];done)|(simp[aH,aw, *];omega)|(simp_all [aH,aw];done)|(simp_all [aH,aw,aI];done)|(by_cases i:op=3<;>by_cases e:op=13<;>simp_all [aH,aw]))⟩
    ·refine ae (λH=>?_) (λH=>?_)
     ·exact⟨_,_,rfl,rfl,h (by simp[bD, *]) (by first|(simp[aH,aw,d, *];done)|(simp[aH,aw, *];omega)|(simp_all [aH,aw];done)|(simp_all [aH,aw,aI];done)|(by_cases i:op=3<;>by_cases e:op=13<;>simp_all [aH,aw]))⟩
     ·refine ae (λI=>?_) (λI=>?_)
      ·exact⟨_,_,rfl,rfl,h (by simp[bD, *]) (by first|(simp[aH,aw,d, *];done)|(simp[aH,aw, *];omega)|(simp_all [aH,aw];done)|(simp_all [aH,aw,aI];done)|(by_cases i:op=3<;>by_cases e:op=13<;>simp_all [aH,aw]))⟩
      ·refine ae (λv=>?_) (λv=>?_)
       ·subst v
        refine bN (jd _ _ _) (λq=>?_) (λq=>?_)
        ·exact ry (iF UD ⟨_,_,rfl,rfl,h (by simp[bD, *]) (by first|(simp[aH,aw,d, *];done)|(simp[aH,aw, *];omega)|(simp_all [aH,aw];done)|(simp_all [aH,aw,aI];done)|(by_cases i:op=3<;>by_cases e:op=13<;>simp_all [aH,aw]))⟩)
        ·exact iF UD ⟨_,_,rfl,rfl,h (by simp[bD, *]) (by first|(simp[aH,aw,d, *];done)|(simp[aH,aw, *];omega)|(simp_all [aH,aw];done)|(simp_all [aH,aw,aI];done)|(by_cases i:op=3<;>by_cases e:op=13<;>simp_all [aH,aw]))⟩
       ·refine ae (λD=>?_) (λD=>?_)
        ·subst D
         refine bN (jd _ _ _) (λq=>?_) (λq=>?_)
         ·exact ry (iF UD ⟨_,_,rfl,rfl,h (by simp[bD, *]) (by first|(simp[aH,aw,d, *];done)|(simp[aH,aw, *];omega)|(simp_all [aH,aw];done)|(simp_all [aH,aw,aI];done)|(by_cases i:op=3<;>by_cases e:op=13<;>simp_all [aH,aw]))⟩)
         ·exact iF UD ⟨_,_,rfl,rfl,h (by simp[bD, *]) (by first|(simp[aH,aw,d, *];done)|(simp[aH,aw, *];omega)|(simp_all [aH,aw];done)|(simp_all [aH,aw,aI];done)|(by_cases i:op=3<;>by_cases e:op=13<;>simp_all [aH,aw]))⟩
        ·refine ae (λj=>?_) (λj=>?_)
         ·subst j
          refine bN (jd _ _ _) (λq=>?_) (λq=>?_)
          ·exact af (jd _ _ _) ⟨_,_,rfl,rfl,h (by simp[bD, *]) (by first|(simp[aH,aw,d, *];done)|(simp[aH,aw, *];omega)|(simp_all [aH,aw];done)|(simp_all [aH,aw,aI];done)|(by_cases i:op=3<;>by_cases e:op=13<;>simp_all [aH,aw]))⟩
          ·exact⟨_,_,rfl,rfl,h (by simp[bD, *]) (by first|(simp[aH,aw,d, *];done)|(simp[aH,aw, *];omega)|(simp_all [aH,aw];done)|(simp_all [aH,aw,aI];done)|(by_cases i:op=3<;>by_cases e:op=13<;>simp_all [aH,aw]))⟩
         ·refine ae (λl=>?_) (λl=>?_)
          ·subst l
           refine EE<|bN (jd _ _ _) (λq=>?_) (λq=>?_)
           ·exact af (jd _ _ _) (iF UD ⟨_,_,rfl,rfl,h (by simp[bD, *]) (by first|(simp[aH,aw,d, *];done)|(simp[aH,aw, *];omega)|(simp_all [aH,aw];done)|(simp_all [aH,aw,aI];done)|(by_cases i:op=3<;>by_cases e:op=13<;>simp_all [aH,aw]))⟩)
           ·exact iF UD ⟨_,_,rfl,rfl,h (by simp[bD, *]) (by first|(simp[aH,aw,d, *];done)|(simp[aH,aw, *];omega)|(simp_all [aH,aw];done)|(simp_all [aH,aw,aI];done)|(by_cases i:op=3<;>by_cases e:op=13<;>simp_all [aH,aw]))⟩
          ·refine ae (λm=>?_) (λm=>?_)
           ·subst m
            refine EE<|bN (jd _ _ _) (λq=>?_) (λq=>?_)
            ·have M:=dI.1 q
             exact gw Uo Uo (af (jd _ _ _) (iF UD ⟨_,_,rfl,rfl,h (by simp[bD, *]) (by first|(simp[aH,aw,d, *];done)|(simp[aH,aw, *];omega)|(simp_all [aH,aw];done)|(simp_all [aH,aw,aI];done)|(by_cases i:op=3<;>by_cases e:op=13<;>simp_all [aH,aw]))⟩))
            ·exact iF UD ⟨_,_,rfl,rfl,h (by simp[bD, *]) (by first|(simp[aH,aw,d, *];done)|(simp[aH,aw, *];omega)|(simp_all [aH,aw];done)|(simp_all [aH,aw,aI];done)|(by_cases i:op=3<;>by_cases e:op=13<;>simp_all [aH,aw]))⟩
           ·exact⟨_,_,rfl,rfl,h (by simp[bD, *]) (by first|(simp[aH,aw,d, *];done)|(simp[aH,aw, *];omega)|(simp_all [aH,aw];done)|(simp_all [aH,aw,aI];done)|(by_cases i:op=3<;>by_cases e:op=13<;>simp_all [aH,aw]))⟩
theorem zm(n:Nd):VC prog 119 [.agg (ndP n)] (.tup [.int .i64 (bD n),.bool (aH n)]):=Lc n.op n.a n.b
theorem qf(op a b:Int)(k:Nat)(v:k<=1000000):VC prog 154 [.agg [.int .i64 op,.int .i64 a,.int .i64 b],.int .i64 k] (.int .i64 (kb ⟨op,a,b⟩ k)):=by
 refine sq 36 [.tmp 4] τok func154 rfl rfl rfl (QX rfl) UO ?_;have fin:∀{x y:Int},x=y ->PV.int .i64 x=PV.int .i64 y:=λh=>by rw[h]
 have f12:∀{r:Int},op=12 ->(k:Int)%2=1 ->kb ⟨op,a,b⟩ k=b:=λe j=>by
  have:k%2=1:=Uo
  simp[kb,e,this]
 have l:op=12 ->¬ (k:Int)%2=1 ->kb ⟨op,a,b⟩ k=0:=λe j=>by
  have:¬ k%2=1:=Uo
  simp[kb,e,this]
 have f0:op≠12 ->¬ (((op=4 \/op=5)/\(k:Int)=1) \/(op=7/\(k:Int)=2)) ->kb ⟨op,a,b⟩ k=0:=λe j=>by simp only[kb,bi];rw[KY e,KY j]
 have f1:(((op=4 \/op=5)/\(k:Int)=1) \/(op=7/\(k:Int)=2)) ->kb ⟨op,a,b⟩ k=1:=λj=>by
  have e:op≠12:=Uo
  simp only[kb,bi];rw[KY e,KX j]
 refine ae (λq=>?_) (λq=>?_)
 ·refine ae (λd=>?_) (λd=>?_)
  ·exact⟨_,_,rfl,rfl,fin (f1 Uo).symm⟩
  ·refine pS Uo (pS Uo ⟨_,_,rfl,rfl,fin (f0 Uo Uo).symm⟩)
 ·refine ae (λt=>?_) (λt=>?_)
  ·refine ae (λd=>?_) (λd=>?_)
   ·exact⟨_,_,rfl,rfl,fin (f1 Uo).symm⟩
   ·refine pS Uo (pS Uo ⟨_,_,rfl,rfl,fin (f0 Uo Uo).symm⟩)
  ·refine ae (λu=>?_) (λu=>?_)
   ·refine ae (λd=>?_) (λd=>?_)
    ·exact⟨_,_,rfl,rfl,fin (f1 Uo).symm⟩
    ·refine pS Uo ⟨_,_,rfl,rfl,fin (f0 Uo Uo).symm⟩
   ·refine ae (λi=>?_) (λi=>?_)
    ·refine pT Uo Uo Uo ?_
     refine ae (λm=>?_) (λm=>?_)
     ·exact⟨_,_,rfl,rfl,fin (f12 (r:=0) i m).symm⟩
     ·exact⟨_,_,rfl,rfl,fin (l i m).symm⟩
    ·exact⟨_,_,rfl,rfl,fin (f0 Uo Uo).symm⟩
theorem Ld(n:Nd)(k:Nat)(a:k<=1000000):VC prog 154 [.agg (ndP n),.int .i64 k] (.int .i64 (kb n k)):=qf n.op n.a n.b k a
def sw(a b k:Nat):Nat:=match Nat.beq k a with
 |true=>b
 |false=>k
def cj(op:Int)(F:List Nd):Nat ->List Tr ->List Nd
 |_,[]=>[]
 |i,k::r=>(if op=12/\i%2=0 then (F[i/2]?).toList else [])++(row k++cj op F (i+1) r)
theorem zn{op:Int}(h:op≠12)(F:List Nd):∀(l:List Tr) (i:Nat),cj op F i l=rows l
 |[],_=>rfl
 |k::r,i=>by simp[cj,h,rows,zn h F r (i+1)]
theorem EJ{op:Int}(h:op=12):∀(ks:List Tr) (p:List Nd),(∀k∈ks,k.ks.length=2) ->cj op (p++ks.map (·.n)) (2*p.length) (ks.flatMap (·.ks))=rows ks
 |[],p,_=>rfl
 | .mk n i::r,p,j=>by
  have h2:=j (.mk n i) Ud;simp only[Tr.ks]at h2
  match i,h2 with
  |[a,b],_=>
   have d:=EJ h r (p++[n]) λk e=>j k (by simp[e]);simp only[JK,JV,JU,List.append_assoc,List.cons_append,List.nil_append]at d;have l:(2*p.length+1)%2=1:=Uo
   have m:2*p.length/2=p.length:=Uo
   have q:2*(p.length+(0+1))=2*p.length+1+1:=Uo
   rw[q]at d;simp[cj,Tr.ks,Tr.n,h,l,m,rows,row,<- d]
theorem iH{x:Tr}(u:Ok .tm x):row x=x.n::(atmsT x++cj x.n.op (funsT x) 0 (kidsT x)):=by
 obtain⟨n,a⟩:=x;obtain⟨⟨v,q⟩,e⟩:=u;simp only[Tr.n,atmsT,funsT,kidsT,Tr.ks,row]
 by_cases j:n.op=2
 ·simp only[j,if_true,KY (show ¬ (2:Int)=12 by decide)]
  simp only[cj,JD]
  congr 1
  have:∀y∈a,y.ks=[]:=λy h=>by
   obtain⟨i,e⟩:=JH h;have:=iW a 0 i y q e;obtain⟨m,l⟩:=y;have t:nx .tm n (0+i)= .am:=by simp[nx,j]
   rw[t]at this;have b:=this.1;simp only[cnt]at b;split at b
   ·injection b with b
    exact List.length_eq_zero_iff.1 b.symm
   ·cases b
  clear v q e
  induction a with
  |nil=>rfl
  |cons y r z=>
   obtain⟨m,l⟩:=y;have b:l=[]:=this (.mk m l) Ud;subst b;simp[rows,row,Tr.n,z λy h=>this y (by simp[h])]
 ·by_cases d:n.op=12
  ·simp only[d,if_true,KY (show ¬ (12:Int)=2 by decide),List.nil_append]
   have:∀y∈a,y.ks.length=2:=λy h=>by
    obtain⟨i,e⟩:=JH h;have:=iW a 0 i y q e;obtain⟨m,l⟩:=y;have t:nx .tm n (0+i)= .fn:=by simp[nx,d]
    rw[t]at this;have b:=this.1;simp only[cnt]at b;split at b
    ·injection b with b
     exact b.symm
    ·cases b
   have:=EJ (op:=12) rfl a [] this;simp only[List.nil_append,JU,Nat.mul_zero]at this;exact KG (n:: ·) this.symm
  ·have D:atmsT (.mk n a)=[]:=KY j
   have E:cj n.op (funsT (.mk n a)) 0 a=rows a:=zn d _ a 0;have F:kidsT (.mk n a)=a:=by simp[kidsT,j,d]
   show n::rows a=n::(atmsT (.mk n a)++cj n.op (funsT (.mk n a)) 0 (kidsT (.mk n a)))
   rw[D,F,E]
   rfl
theorem Lf{x:Tr}(h:Ok .tm x){j:Nat}(a:x.n.op=12)(u:j<(kidsT x).length):∃f,(funsT x)[j/2]?=some f:=by
 have:(kidsT x).length=2*(funsT x).length:=by
  have v:=iH h;obtain⟨n,d⟩:=x;obtain⟨⟨D,l⟩,e⟩:=h;simp only[Tr.n]at a;have q:kidsT (.mk n d)=d.flatMap (·.ks):=by simp[kidsT,a]
  have t:funsT (.mk n d)=d.map (·.n):=KX a;rw[q,t,KF];have:∀y∈d,y.ks.length=2:=λy E=>by
   obtain⟨i,e⟩:=JH E;have:=iW d 0 i y l e;obtain⟨m,M⟩:=y;have F:nx .tm n (0+i)= .fn:=by simp[nx,a]
   rw[F]at this;have b:=this.1;simp only[cnt]at b;split at b
   ·injection b with b
    exact b.symm
   ·cases b
  clear u v D l e q t
  induction d with
  |nil=>rfl
  |cons y r H=>
   have b:=this y Ud;have I:=H λz L=>this z (by simp[L]);simp only[List.flatMap_cons,JK,JV,b,I];omega
 exact⟨_,gE⟩
theorem gX(l:List Nd):∀x∈l,(ndP x).length=3/\∀q∈ndP x,q.one=true:=λx _=>⟨rfl,λq a=>by
 simp only[ndP,JJ,JZ,or_false]at a;rcases a with rfl|rfl|rfl<;>rfl⟩
theorem EK(op:Int)(F:List Nd):∀(l:List Tr) (i j:Nat) (y:Tr),l[j]?=some y ->(row y).length<=(cj op F i l).length
 |x::r,i,0,y,h=>by
  obtain rfl:=JB h;simp only[cj,JK];omega
 |x::r,i,j+1,y,h=>by
  have:=EK op F r (i+1) j y h;simp only[cj,JK];omega
theorem ij{x:Tr}(a:Ok .tm x){j:Nat}{y:Tr}(h:(kidsT x)[j]?=some y):(row y).length<(row x).length:=by
 have:=EK x.n.op (funsT x) (kidsT x) 0 j y h;rw[iH a];simp only[JV,JK];omega
structure Wf(x:Tr):Prop where
 ok:Ok .tm x
 len:(row x).length<=4096
theorem Wf.ft{x:Tr}(h:Wf x):Ft (λ_=>True) 2000000 x:=by
 refine⟨h.ok,h.len,λq a=>?_,λ_ _=>VQ⟩;have b:=fj' x .tm 0 0 h.ok.1 Uo Uo Uo q a;omega
theorem Wf.kid{x:Tr}(h:Wf x){j:Nat}{y:Tr}(a:(kidsT x)[j]?=some y):Wf y:=by
 obtain⟨n,b⟩:=x;have:=h.ft.kid a;exact⟨this.ok,this.len⟩
theorem vt{l:List Tr}{i:Int}{k:Nat ->List PV ->Prop}(j:Nat){y:Tr}(a:l[j]?=some y)(b:k j (ec y))(hi:i=(j:Int):=by first|rfl|omega):kD (l.map trP) 6 i k:=
 oR j (ec y) hi (by rw[JX,a];exact KG some (kK y)) rfl b
theorem lJ(N:Nat)(Y:N<=1000000):∀x:Tr,Wf x ->(row x).length<=N ->VC prog 98 [bB x] (ah (row x)):=by
 induction N with
 |zero=>
  intro x _ h;have:=aR x;omega
 |succ N U=>
  intro x t M;have E:=iH t.ok;have m:=λj y=>ij t.ok (j:=j) (y:=y);have r:=λj y=>t.kid (j:=j) (y:=y);have u:=t.len;have v:=gO t.ok;have H:∀j,x.n.op=12 ->j<(kidsT x).length ->∃f,(funsT x)[j/2]?=some f:=λj=>Lf t.ok;show VC _ _ [.agg (fL x.n _ _ _)] _
  revert E m r H u M v
  generalize row x=R,kidsT x=K,funsT x=F,atmsT x=At
  obtain⟨O,a,b⟩:=x.n;intro M E m r u v H;have z:=KG List.length E;simp only[JV,JK]at z;have Z:=aq trP K;refine vf 45 [.tmp 2] τok func98 ?_;refine va ?_ (gX At);refine aB τok (σ:=Nat×List Nd) [(1,_)] [(1,_)] (λq=>[(3,.c (.row 1000)),(4,vI q.1)]) (λq=>[(1000,.rw 47 3 (q.2.map ndP))]) (λq=>q.1<=K.length/\q.2++cj O F q.1 (K.drop q.1)=R) (λq=>K.length-q.1) (0,⟨O,a,b⟩::At) ⟨KV _,by simpa using E.symm⟩ ?_ (sw 1000 10);rintro⟨i,l⟩ ⟨V,d⟩;simp only at V d;refine aj<|ae (λg=>?_) (λg=>?_)
  ·obtain⟨y,D,W⟩:=az (l:=K) (k:=i)
   rw[W]at d;simp only[cj]at d;have I:=KG List.length d;simp only[JK]at I;have L:=U Uo y (r i y D) (by have:=m i y D;omega);refine ae (λe=>?_) (λe=>?_)
   ·refine pT Uo Uo Uo ?_
    refine ae (λS=>?_) (λS=>?_)
    ·obtain⟨f,T⟩:=H i e Uo
     rw[KX ⟨e,Uo⟩,T]at d;refine pT Uo Uo Uo<|vm (i/2) T ?_;refine bg ?_;refine vt i D ?_;refine af L ?_;refine va ?_ (gX _);refine vi ?_;exact au (i+1,l++[f]++row y) ⟨Us,by simpa using d⟩ (sw 1000 43)
    ·rw[KY λq=>S Uo]at d
     refine vt i D ?_;refine af L ?_;refine va ?_ (gX _);refine vi ?_;exact au (i+1,l++row y) ⟨Us,by simpa using d⟩ (sw 1000 43)
   ·rw[KY λq=>e q.1]at d
    refine vt i D ?_;refine af L ?_;refine va ?_ (gX _);refine vi ?_;exact au (i+1,l++row y) ⟨Us,by simpa using d⟩ (sw 1000 43)
  ·rw[JY Uo]at d
   simp only[cj,JD]at d;exact aF (h3:=by rw[<- d];rfl)
abbrev qg(n:Nd):PV:=.agg (ndP n)
theorem Lg(n:Nd):VC prog 116 [qg n] (.bool (aI n.a 0 63)):=by
 refine vf 11 [.tmp 2] τok func116 ?_
 repeat' refine ae (λ_=>?_) (λ_=>?_)
 all_goals exact⟨_,_,rfl,rfl,KG PV.bool (by first|(simp[aI, *];done)|(simp[aI, *];omega))⟩
theorem zp(n:Nd):VC prog 63 [qg n] (.bool (aw n)):=by
 generalize hP:aw n=P;have fin:∀{Q:Bool},Q=P ->gs' [PV.nz (.bool Q)]= .bool P:=λh=>by rw[h];rfl
 refine vf 148 [.tmp 2] τok func63 ?_;refine ae (λi=>?_) (λi=>?_)
 ·skip
  repeat' refine ae (λ_=>?_) (λ_=>?_)
  all_goals exact⟨_,_,rfl,rfl,fin (by rw[<- hP];first|(simp[aw,aI, *];done)|(simp[aw,aI, *];omega))⟩
 refine ae (λj=>?_) (λj=>?_)
 ·skip
  repeat' refine ae (λ_=>?_) (λ_=>?_)
  all_goals exact⟨_,_,rfl,rfl,fin (by rw[<- hP];first|(simp[aw,aI, *];done)|(simp[aw,aI, *];omega))⟩
 refine ae (λl=>?_) (λl=>?_)
 ·skip
  repeat' refine ae (λ_=>?_) (λ_=>?_)
  all_goals exact⟨_,_,rfl,rfl,fin (by rw[<- hP];first|(simp[aw,aI, *];done)|(simp[aw,aI, *];omega))⟩
 refine ae (λm=>?_) (λm=>?_)
 ·skip
  repeat' refine ae (λ_=>?_) (λ_=>?_)
  all_goals exact⟨_,_,rfl,rfl,fin (by rw[<- hP];first|(simp[aw,aI, *];done)|(simp[aw,aI, *];omega))⟩
 refine ae (λr=>?_) (λr=>?_)
 ·skip
  repeat' refine ae (λ_=>?_) (λ_=>?_)
  all_goals exact⟨_,_,rfl,rfl,fin (by rw[<- hP];first|(simp[aw,aI, *];done)|(simp[aw,aI, *];omega))⟩
 refine ae (λt=>?_) (λt=>?_)
 ·skip
  repeat' refine ae (λ_=>?_) (λ_=>?_)
  all_goals exact⟨_,_,rfl,rfl,fin (by rw[<- hP];first|(simp[aw,aI, *];done)|(simp[aw,aI, *];omega))⟩
 refine ae (λu=>?_) (λu=>?_)
 ·skip
  repeat' refine ae (λ_=>?_) (λ_=>?_)
  all_goals exact⟨_,_,rfl,rfl,fin (by rw[<- hP];first|(simp[aw,aI, *];done)|(simp[aw,aI, *];omega))⟩
 have a:=Lg n;have b:=@dI n.a 0 63
 generalize aI n.a 0 63=q at a b
 refine ae (λv=>?_) (λv=>?_)
 ·cases q<;>simp at b
  all_goals refine af a ?_
  repeat' refine ae (λ_=>?_) (λ_=>?_)
  all_goals exact⟨_,_,rfl,rfl,fin (by rw[<- hP];first|(simp[aw,aI, *];done)|(simp[aw,aI, *];omega))⟩
 refine ae (λx=>?_) (λx=>?_)
 ·cases q<;>simp at b
  all_goals refine af a ?_
  repeat' refine ae (λ_=>?_) (λ_=>?_)
  all_goals exact⟨_,_,rfl,rfl,fin (by rw[<- hP];first|(simp[aw,aI, *];done)|(simp[aw,aI, *];omega))⟩
 refine ae (λd=>?_) (λd=>?_)
 ·cases q<;>simp at b
  all_goals refine af a ?_
  repeat' refine ae (λ_=>?_) (λ_=>?_)
  all_goals exact⟨_,_,rfl,rfl,fin (by rw[<- hP];first|(simp[aw,aI, *];done)|(simp[aw,aI, *];omega))⟩
 refine ae (λe=>?_) (λe=>?_)
 ·cases q<;>simp at b
  all_goals refine af a ?_
  repeat' refine ae (λ_=>?_) (λ_=>?_)
  all_goals exact⟨_,_,rfl,rfl,fin (by rw[<- hP];first|(simp[aw,aI, *];done)|(simp[aw,aI, *];omega))⟩
 repeat' refine ae (λ_=>?_) (λ_=>?_)
 all_goals exact⟨_,_,rfl,rfl,fin (by rw[<- hP];first|(simp[aw,aI, *];done)|(simp[aw,aI, *];omega))⟩
theorem zq(n:Nd)(hb:0<=n.b/\n.b<=1000):VC prog 65 [qg n] (pI (bw n)):=by
 refine vf 21 [.tmp 2] τok func65 ?_
 repeat' first|refine ae (λ_=>?_) (λ_=>?_)|refine vi ?_
 all_goals exact⟨_,_,rfl,rfl,KG (PV.int .i64) (by simp[bw, *])⟩
theorem EL(n:Nd)(k:Int):VC prog 192 [qg n,pI k] (pI (bi n k)):=by
 refine vf 25 [.tmp 4] τok func192 ?_
 repeat' refine ae (λ_=>?_) (λ_=>?_)
 all_goals exact⟨_,_,rfl,rfl,KG (PV.int .i64) (by simp_all [bi])⟩
end Go.Q
