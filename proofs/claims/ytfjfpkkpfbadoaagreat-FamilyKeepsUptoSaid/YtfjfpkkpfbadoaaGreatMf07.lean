import Derived.Test.YtfjfpkkpfbadoaaGreatMf06
import Derived.Shelf.SlIterI.Nil
import Derived.Shelf.SortM.Plain
import Derived.Shelf.SortM.SortNone
import Derived.Maps.OwnSet
import Derived.Maps.Range
set_option linter.all false
set_option maxRecDepth 100000
set_option maxHeartbeats 4000000
open Go.Proofs Go.Proofs.Tryz Cd Go Go.Wx Lv Tm
namespace Go.Wx
def VD(P:Program)(f:FuncId)(u:FrameMode)(js:List Nat)(m m':List (Nat×SE)):Prop:=
 dO P f/\∀(w:World) (X:List Nat) (C:Mem) (ρ:Nat ->Value),Rp w X C ⟨kD' (jU js) 0,m⟩ ⟨ini (js.map ρ) 0,[]⟩ w C ρ ->
  CallsD P f (js.map ρ).toArray u w λe u' w'=>(∃v,e= .returned v)/\settle u'= .returning/\∃C' ρ',Rp w X C ⟨[],m'⟩ ⟨[],[]⟩ w' C' ρ'
section
variable{P:Program}{τ:Tau}{n:Nat}{A:AS}{f cl:FuncId}{rs:List ResultVar}{a:AV}{m m':List (Nat×SE)}{t:Nat}{fv:Value}{u:FrameMode}
structure DQ(P:Program)(τ:Tau)(rs:List ResultVar)(a:AV)(m':List (Nat×SE))(t:Nat)(fv:Value)(u:FrameMode)(A:AS):Prop where
 go:∃(cl:FuncId) (js ks:List Nat) (h fg:Nat ->Nat) (m1 m2:List (Nat×SE)),VD P cl u js m1 m2/\u≠ .run/\look A.e t=some (.c (.fr fv cl ks))/\js.map h=ks/\pW A ks=true/\nQ A h m1/\lF m1 0=true/\dc h (keysOf m1++newK m1 m2)=true/\dc h (keysOf m2)=true/\jT m1 m2=true/\newK m1 m2=[]/\gS ⟨[],m2⟩ (kF m2)=true/\mF A h fg m2=true/\qa τ rs a m' (A.upd [] (jc fg h m1 m2))
theorem kM{d ks:List Nat}(h fg:Nat ->Nat){b m2:List (Nat×SE)}(e:VD P cl u d b m2)(j:qa τ rs a m' (A.upd [] (jc fg h b m2)))(k:u≠ .run:=by exact λh=>by cases h)(o:look A.e t=some (.c (.fr fv cl ks)):=by rfl)(q:d.map h=ks:=by rfl)(r:pW A ks=true:=by rfl)(he:nQ A h b:=by repeat first|exact VQ|refine And.intro rfl ?_)(s:lF b 0=true:=by rfl)(i:dc h (keysOf b++newK b m2)=true:=by rfl)(i':dc h (keysOf m2)=true:=by rfl)(p:jT b m2=true:=by rfl)(v:newK b m2=[]:=by rfl)(l:gS ⟨[],m2⟩ (kF m2)=true:=by rfl)(g:mF A h fg m2=true:=by rfl):DQ P τ rs a m' t fv u A:=
 ⟨cl,d,ks,h,fg,b,m2,e,k,o,q,r,he,s,i,i',p,v,l,g,j⟩
def Lh(P:Program)(τ:Tau)(rs:List ResultVar)(a:AV)(m':List (Nat×SE))(t:Nat)(fv:Value):Exit ->AS ->Prop
 | .normal,A=>DQ P τ rs a m' t fv .returning A
 | .ret,A=>DQ P τ rs a m' t fv .returning A
 | .panic ch,A=>DQ P τ rs a m' t fv (.panicking ch) A
 |_,_=>False
theorem zr{w0 w:World}{X:List Nat}{C0:Mem}{s:St}{caps:Array Value}(K:aU P τ)(hD:DQ P τ rs a m' t (.func (.func cl) #[] caps) u A)(hd:s.d=[{target:=.fn (.func cl) caps,args:=#[] }])(z:Rep w0 X C0 A s w):
  lv P rs (λe w'=>∃v C' ρ',e= .returned v/\Rp w0 X C0 ⟨[(0,a)],m'⟩ ⟨[(0,v)],[]⟩ w' C' ρ') u s w:=by
 obtain⟨a3,js,ks,h,fg,m1,m2,hV,hu,ht,hj,hs,he,L,O,R,hp,V,hl,H,hE⟩:=hD.go;obtain⟨C,ρ,z⟩:=z;have D:=Ei hs;have W:Lv A ks:=λk I=>by
  obtain⟨g,T,cs,d⟩:=D k I;exact⟨_,d,rfl⟩
 obtain⟨v,_,rfl,E⟩:=z.slot t _ ht W;injection E with j _ Y
 injection j with j
 subst j Y;have F:=Eb he;have e3:ks.map ρ=js.map λk=>ρ (h k):=by rw[<- hj,List.map_map];rfl
 refine⟨_,_,_,cl,(ks.map ρ).toArray,hd,hu,by simp[go_sem,Ca hV.1],?_⟩;rw[e3];refine(hV.2 w _ C (λk=>ρ (h k)) (z.into F (rN O) L (by simp[jU]) λi b v l E=>?_)).mono λe u' w' ⟨h1,h2,C2,a4,h3⟩=>⟨h1,h2,?_⟩
 ·unfold jU at l
  rw[JX]at l E;cases o:js[i]? with
  |none=>rw[o]at l;cases l
  |some q=>
   rw[o]at l E;obtain rfl:=JB l;obtain rfl:=JB E;obtain⟨g,T,cs,d⟩:=D (h q) (by rw[<- hj];exact QD (JQ o));obtain⟨b,us,e,_⟩:=z.ent _ _ d;exact⟨b,e,e⟩
 ·have Z:∀p∈m2,p.2.fl≠none ->su' (look A.m (h p.1))=fg (h p.1):=λp r a0=>by
   obtain⟨_,g2⟩:=Ea H p r;obtain⟨c1,_⟩:=uR hp p r;have a1:p.1∈keysOf m2:=by rw[mD];exact QD (f:=(·.1)) r
   have d:p.1∈keysOf m1:=Classical.byContradiction λd=>by
    have:=mE.2 ⟨a1,d⟩;unfold newK at V;rw[V]at this;cases this
   obtain⟨y,hy⟩:∃y,(p.1,y)∈m1:=by
    rw[mD]at d;obtain⟨q,o,e⟩:=List.mem_map.1 d;exact⟨q.2,by rw[<- e];exact o⟩
   rcases c1 y (oV (rN O) hy)with ⟨g,j,Y,_⟩|j
   ·obtain⟨q,o,_⟩:=oW (ρ:=ρ) L _ hy g Y
    exact g2 q (by rw[j,o];simp)
   ·cases H:p.2.fl with
    |none=>exact absurd H a0
    |some g=>rw[(rL H).2]at j;cases j
  obtain⟨C3,a5,a2⟩:=z.back (s':=s) (wr:=[]) (v:=undef) (a:=.c (.p (.raw undef))) F O R L hp hl (λk I=>by rw[V]at I;cases I) Z (h3.reslot (b:=.c (.p (.raw undef))) λ_=>RV.raw _) (λt b l=>by cases l) λ_ _=>rfl;exact zh K a2 hE
theorem EM{fn:Func}{c:Code}{args:List Value}{w:World}{R:Ending ->World ->Prop}(n:Nat)(rs:List ResultVar)
  (o:P.funcs[f]?=some fn) (hb:fn.body=some c) (q:fn.ntmps=n) (i:fn.results.toList=rs) (r:args.length<=n)
  (h:EvCode P n c ⟨ini args 0,[]⟩ w (rm P rs R)):Calls P f args.toArray w R:=by
 subst q i;refine calls_of_wp_defers o hb ?_;have z:Fr fn.ntmps {tmps:=args.toArray++Array.replicate (fn.ntmps-args.toArray.size) undef,defers:=[] } ⟨ini args 0,[]⟩:=by
  refine⟨Uk,rfl,λt v C=>?_⟩;obtain⟨_,j⟩:=lt' _ _ _ _ C;rw[Nat.sub_zero]at j;have k:t<args.length:=(List.getElem?_eq_some_iff.1 j).1;rw[Array.getElem?_append_left (by simpa using k)]
  simpa using j
 unfold EvCode at h;refine Go.wp_mono (h _ z) λe E F D=>?_;obtain⟨s,b,d⟩:=D;cases e with
 |normal=>exact xA b d
 |ret=>exact xA b d
 |panic H=>exact xA b d
 |outgrown=>exact d.elim
 |exit id=>exact d.elim
 |goto l=>exact d.elim
structure Li(o:Oper)(t:Nat):Prop where
 g:o.guard=none
 d:o.dst=none
 p:o.op= .defer {callee:=.value (.tmp t),args:=#[],argTypes:=#[] }
def KD(P:Program)(τ:Tau)(n:Nat)(A:AS)(o:Oper)(c:Code)(rs:List ResultVar)(a:AV)(m':List (Nat×SE)):Kk:=λwr wm F=>match wr,wm,F with
 |[(t,.c (.fn cl ks))],[],[]=>Li o t/\gS A ks=true/\∀fv,VCode P n c (A.upd [(t,.c (.fr fv cl ks))] []) (Lh P τ rs a m' t fv)
 |_,_,_=>False
theorem EN{c1:Code}{id:Nat}{O R:Oper}{w T:World}{X:List Nat}{C:Mem}{D:St}{o:Act}(q:aU P τ)(hg:O.guard=none)(V:V1 P τ n O A (KD P τ n A R c1 rs a m') λ_ _=>False)(a0:Fr n o D)(a1:D.d=[])(a2:Rep w X C A D T):
  (Code.seq (.region id #[O,R] false) c1).wp P (lift n (rm P rs λe w'=>∃v C' ρ',e= .returned v/\Rp w X C ⟨[(0,a)],m'⟩ ⟨[(0,v)],[]⟩ w' C' ρ')) o T:=by
 rcases V1_snd (w0:=w) (X:=X) (C0:=C) q V with ⟨wr,wm,F,z,hT⟩|⟨_,_,z,_⟩
 ·unfold KD at z
  split at z
  ·rename_i t cl ks
   obtain⟨E,a3,z⟩:=z;refine wp_seq<|Go.wp_mono (nw q (.region id #[O,R] false) D T (λe s' w'=>e= .normal/\∃i,s'.d=[{target:=.fn (.func cl) i,args:=#[] }]/\Rep w X C (A.upd [(t,.c (.fr (.func (.func cl) #[] i) cl ks))] []) s' w') ?_ o a0) λe W w2 a4=>?_
   ·show fY P τ n [O,R] _ _ [O,R] D T
    rw[mp];simp only[hg];refine hT A D T _ _ ⟨λ_ _=>rfl,λ_ _ _ _ _ _ _=>rfl,λ_ _ _=>rfl,λ_ _ _ _ h=>h⟩ (λk V=>by cases V) a2 λs2 w2 d r=>?_;obtain⟨C2,H,d⟩:=d;have a5:look (A.upd [(t,AV.c (.fn cl ks))] []).e t=some (.c (.fn cl ks)):=mA _ _ _;obtain⟨v,hv,I⟩:=d.slot t _ a5 (nK a3);have I:v= .func (.func cl) #[] (ks.map H).toArray:=I;subst I;rw[mp];simp only[E.g];unfold aW;simp only[E.p];refine be (show ev s2.e (.tmp t)=_ from hv) ?_;obtain⟨e2,d2⟩:=s2;have r:d2=D.d:=r;subst r;rw[E.d,a1];refine⟨by trivial,(ks.map H).toArray,Ud,C2,H,λY b K hl=>?_,λk x V=>?_,d.sep,d.off,d.sub,d.c0,d.cn,d.kp⟩
    ·have K:look ((t,_)::A.e) Y=some b:=K
     rw[cG]at K;cases Z:Nat.beq t Y with
     |true=>
      rw[Z]at K;obtain rfl:=QJ Z;obtain rfl:=JB K;exact⟨_,hv,rfl,rfl⟩
     |false=>
      rw[Z]at K;refine d.slot Y b ?_ hl;show look ((t,_)::A.e) Y=some b;rw[cG,Z];exact K
    ·have:=d.ent k x V
     cases x<;>exact this
   ·obtain⟨s2,a6,he,i,r,d⟩:=a4
    subst he;have h3:=(z (.func (.func cl) #[] i)).run _ _ _ _ _ d;unfold EvCode at h3;refine Go.wp_mono (h3 W a6) λe a' w' hl=>?_;obtain⟨s4,a7,s,A4,j,L⟩:=hl;refine⟨s4,a7,?_⟩;rw[r]at s;cases e with
    |normal=>exact zr q j s L
    |ret=>exact zr q j s L
    |panic ch=>exact zr q j s L
    |exit id=>exact j.elim
    |goto l=>exact j.elim
    |outgrown=>exact j.elim
  ·exact z.elim
 ·exact z.elim
theorem sB{fn:Func}{c0 c1:Code}{id:Nat}{d z:Oper}{bs:List AV}(n:Nat)(rs:List ResultVar)(i:aU P τ)(D:P.funcs[f]?=some fn)
  (h : VCode P n c0 ⟨kD' bs 0, m⟩ (gx (λA => V1 P τ n d A (KD P τ n A z c1 rs a m') λ_ _ => False) λ_ _ => False)) (hb : fn.body = some (.seq c0 (.seq (.region id #[d, z] false) c1)) := by rfl) (H : d.guard = none := by rfl) (I : fn.ntmps = n := by rfl) (j : fn.results.toList = rs := by rfl) (K : bs.length <= n := by exact QX rfl) (k : (fn.name == "runtime.NumGoroutine") = false := by decide) : VG P f bs m (.ok (a, m')) := by
 refine⟨⟨fn,D,by rw[hb];rfl,k⟩,λw X C ρ R T L=>?_⟩;refine EM n rs D hb I j Uo ?_;have E:=h.run _ _ _ _ _ ⟨C,ρ,L⟩;unfold EvCode at E ⊢;intro o O;refine wp_seq (Go.wp_mono (E o O) λe F V q=>?_);obtain⟨W,r,s,A,b,v⟩:=q;cases e with
 |normal=>exact EN i H b r s v
 |exit id=>exact b.elim
 |goto l=>exact b.elim
 |ret=>exact b.elim
 |panic Y=>exact b.elim
 |outgrown=>exact b.elim
theorem Lj{fn:Func}{c0 cx c1:Code}{id:Nat}{j I:Oper}{bs:List AV}(n:Nat)(rs:List ResultVar)(k:aU P τ)(K:P.funcs[f]?=some fn)
  (h : VCode P n c0 ⟨kD' bs 0, m⟩ (gx (λA => VCode P n cx A (gx (λA => V1 P τ n j A (KD P τ n A I c1 rs a m') λ_ _ => False) λ_ _ => False)) λ_ _ => False)) (hb : fn.body = some (.seq c0 (.seq cx (.seq (.region id #[j, I] false) c1))) := by rfl) (V : j.guard = none := by rfl) (W : fn.ntmps = n := by rfl) (o : fn.results.toList = rs := by rfl) (Y : bs.length <= n := by exact QX rfl) (q : (fn.name == "runtime.NumGoroutine") = false := by decide) : VG P f bs m (.ok (a, m')) := by
 refine⟨⟨fn,K,by rw[hb];rfl,q⟩,λw X C ρ vs hl Z=>?_⟩;refine EM n rs K hb W o Uo ?_;have L:=h.run _ _ _ _ _ ⟨C,ρ,Z⟩;unfold EvCode at L ⊢;intro r hF;refine wp_seq (Go.wp_mono (L r hF) λe i w1 s=>?_);obtain⟨O,v,d,A,b,z⟩:=s;cases e with
 |normal=>
  have d:O.d=[]:=d;have R:=(show VCode P n cx A _ from b).run _ _ _ _ _ z;unfold EvCode at R;refine wp_seq (Go.wp_mono (R i v) λe T w2 D=>?_);obtain⟨s2,E,F,A2,b,H⟩:=D;cases e with
  |normal=>exact EN k V b E ((show s2.d=O.d from F).trans d) H
  |exit id=>exact b.elim
  |goto l=>exact b.elim
  |ret=>exact b.elim
  |panic ch=>exact b.elim
  |outgrown=>exact b.elim
 |exit id=>exact b.elim
 |goto l=>exact b.elim
 |ret=>exact b.elim
 |panic ch=>exact b.elim
 |outgrown=>exact b.elim
end
end Go.Wx
namespace Tm
section
variable{U:Type}{one:U×List Nd ->Nd ->Int ->Option (U×List Nd)}
mutual
theorem vp{wt:U ->Nat}{G:Nat}(q:1<=G)(h:∀u l n d i j,one (u,l) n d=some (i,j) ->j.length+wt i<=l.length+wt u+G):∀(x:Tr) (d nb:Int) (u:U) (l:List Nd) (i:U) (j:List Nd),wT one cK x d nb (u,l)=some (i,j) ->j.length+wt i<=l.length+wt u+G*(row x).length
 | .mk n ks,d,nb,u,l,i,j,e=>by
  simp only[wT]at e;split at e
  ·cases e
  ·rename_i r b
   obtain⟨k,o⟩:=r;have s:o.length+wt k<=l.length+wt u+G:=by
    split at b
    ·simp only[cK,QZ,Prod.mk.injEq]at b
     rw[<- b.1,<- b.2];simp;omega
    ·exact h _ _ _ _ _ _ b
   have v:=EO q h ks n nb 0 d k o i j e;simp only[row,JV,Nat.mul_add];omega
theorem EO{wt:U ->Nat}{G:Nat}(o:1<=G)(h:∀u l n d b i,one (u,l) n d=some (b,i) ->i.length+wt b<=l.length+wt u+G):∀(ks:List Tr) (n:Nd) (nb k d:Int) (u:U) (l:List Nd) (b:U) (i:List Nd),wK one cK ks n nb k d (u,l)=some (b,i) ->i.length+wt b<=l.length+wt u+G*(rows ks).length
 |[],n,nb,k,d,u,l,b,i,e=>by
  simp only[wK,QZ,Prod.mk.injEq]at e;rw[e.1,e.2];simp[rows]
 |x::r,n,nb,k,d,u,l,b,i,e=>by
  simp only[wK]at e;split at e
  ·cases e
  ·rename_i v j
   obtain⟨q,s⟩:=v;have w:=vp o h x _ _ u l q s j;have z:=EO o h r n nb (k+1) d q s b i e;simp only[rows,JK,Nat.mul_add];omega
end
end
end Tm
namespace Go.Q
def exL:List (Nat×List AC) ->Nat ->Nat ->List (Nat×SE)
 |[],_,_=>[]
 |(T,cs)::r,k,g=>(k,.st g T cs)::exL r (k+1) (g+1)
def zt{σ:Type}(c:σ ->List (Nat×List AC)):Prop:=∃(T0 T1 T2 T3 T4:Nat) (g:FuncId) (p0 p1 p2 p3:σ ->PV),
 (c=λu=>[(T0,[.p (p0 u)]),(T1,[.p (p1 u)])]) \/(c=λu=>[(T0,[.p (p0 u)]),(T1,[.fn g [102]]),(T2,[.p (p1 u)])]) \/
 (c=λu=>[(T0,[.p (p0 u)]),(T1,[.fn g [102,103,104]]),(T2,[.p (p1 u)]),(T3,[.p (p2 u)]),(T4,[.p (p3 u)])]) \/c=λu=>[(T0,[.p (p0 u)]),(T1,[.fn g [102,103]]),(T2,[.p (p1 u)]),(T3,[.p (p2 u)])]
abbrev mQ(l:List Nd):SE:=.rw 47 3 (l.map ndP)
section
variable{σ:Type}(c:σ ->List (Nat×List AC))(f:FuncId)(t:List Nd)
def wM(r:Nat)(p:Nat)(u:σ)(l:List Nd):List (Nat×SE):=
 (r,mQ l)::(1,.st 1 39 [.p (ah t)])::(2,.st 2 3 [.p (pI p)])::(3,.st 3 222 [.fn f [100,101]])::(4,.st 4 39 [.row r])::(5,.st 5 233 [.fn 205 [1,2,3,4,5]])::exL (c u) 100 6
def One(wt:σ ->Nat)(one:σ×List Nd ->Nd ->Int ->Option (σ×List Nd))(M:Nat)(er:Int):Prop:=
 ∀(u:σ) (l:List Nd) (n:Nd) (d:Nat),aw n=true ->d<=100000 ->l.length+wt u<=M ->VG prog f [.c (.row 0),.c (.p (qg n)),.c (.p (pI d)),.c (.ptr 100 0),.c (.ptr 101 0)] ((0,mQ l)::exL (c u) 100 1) (match one (u,l) n d with
  |some s=>.ok (.c (.row 10),(10,mQ s.2)::exL (c s.1) 100 1)
  |none=>.error (rl er))
def zu(n k:Nat):Nat:=match Nat.ble 100 k with
 |true=>k-n
 |false=>k
def EP{σ:Type}{c:σ ->List (Nat×List AC)}{f:FuncId}{one:σ×List Nd ->Nd ->Int ->Option (σ×List Nd)}{wt:σ ->Nat}{M:Nat}{er:Int}(_:One c f wt one M er)(u:σ):List (Nat×SE):=exL (c u) 100 6
theorem Lk(c5:zt c)(wt:σ ->Nat)(one:σ×List Nd ->Nd ->Int ->Option (σ×List Nd))(M:Nat)(er:Int)(G:Nat)(hG:1<=G)(hM:M<=100000000)(T:One c f wt one M er)(w:∀u l n d u' l',one (u,l) n d=some (u',l') ->l'.length+wt u'<=l.length+wt u+G)(ht:t.length<=100000):
  ∀(N:Nat) (x:Tr) (j:List Nd) (p:Nat) (u:σ) (l:List Nd) (d:Nat),(row x).length<=N ->Ok .tm x ->t.drop p=row x++j ->d+4*(row x).length<=100000 ->l.length+wt u+G*(row x).length<=M ->
   VG prog 205 [.c (.p (pI d)),.c (.ptr 1 0),.c (.ptr 2 0),.c (.ptr 3 0),.c (.ptr 4 0),.c (.ptr 5 0)] (wM c f t 0 p u l) (match wT one cK x d 0 (u,l)with
    |some s=>.ok (.c (.p (.tup [])),wM c f t 10 (p+(row x).length) s.1 s.2)
    |none=>.error (rl er)):=by
 intro N
 induction N using Nat.strongRecOn with
 |_ N ih=>
 rintro⟨n,ks⟩ j p u l d hN hx O hd hl;obtain⟨hp,h3,a9⟩:=hx.tm;obtain⟨hc,a',b6⟩:=hx.kids;have b7:=dn hp;have eT:=aq ndP t;have h1:=T u l n d hp Uo (by simp[row]at hl;have:0<=G*((rows ks).length+1):=KV _;omega);generalize b:wT one cK (.mk n ks) d 0 (u,l)=a3;simp only[wT,KY (show ¬ (n.op=3 \/n.op=13) by simp[h3,a9])]at b;simp only[row,List.cons_append,JV]at O hN hd hl ⊢;generalize hQ:p+((rows ks).length+1)=Q;have e3:p<t.length:=by
  rcases Nat.lt_or_ge p t.length with h|h
  ·exact h
  ·rw[JY h]at O;cases O
 have hn:t[p]?=some n:=by
  have:=KG List.head? O;rw[List.head?_drop]at this;exact this
 have V:t.drop (p+1)=rows ks++j:=by rw[<- List.drop_drop,O];rfl
 obtain⟨T0,T1,T2,T3,T4,g,p0,p1,p2,p3,rfl|rfl|rfl|rfl⟩:=c5
 all_goals
  refine cQ 70 [] τok func205 ?_;refine aD<|vm (p:=ndP) p hn ?_;refine aD<|vi ?_;refine aD ?_;cases hr:one (u,l) n d with
  |none=>
   rw[hr]at h1 b;subst b;refine mG id h1 ?_;exact rfl
  |some r=>
  rw[hr]at h1 b;refine aZ id (λk=>k-94) h1 ?_;obtain⟨u1,l1⟩:=r;have c6:=w _ _ _ _ _ _ hr;simp only at b c6;rw[Nat.mul_add]at hl;have e4:(rows ks).length<=G*(rows ks).length:=Nat.le_mul_of_pos_left _ hG;have e5:t.length-(p+1)=(rows ks).length+j.length:=by rw[<- VK,V,JK]
  obtain⟨v,e⟩:∃v,v=(if n.op=2 then []else ks):=⟨_,rfl⟩
  refine dd τok (σ:=Nat×List Nd) [(0,_),(1,_),(2,_),(3,_),(4,_),(5,_),(7,_)] ([(1,_),(3,_),(5,_),(7,_)]++EP T u1) (λ_=>[]) (λq=>[(2,.st 2 3 [.p (pI q.1)]),(0,mQ q.2),(4,.st 4 39 [.row 0])]) (λq=>wK one cK v n 0 0 d (u1,q.2)=a3/\t.drop q.1=rows v++j/\q.2.length+wt u1+G*(rows v).length<=M/\Q=q.1+(rows v).length) ?_ ?_
  ·refine ae (λD=>?_) (λD=>?_)
   ·have D:n.op=2:=D
    rw[KX D]at e;subst e;have e6:(rows ks).length=ks.length:=qm' D a';obtain⟨_,_,_,b0⟩:=eS hc;rw[KX D]at b0;have e7:n.b=((rows ks).length:Int):=Uo
    rw[CF one ks n 0 0 d (u1,l1) a' D]at b;refine vi ?_;refine bO (p+1) (p+1+(rows ks).length) ?_ (λx hx=>by obtain⟨y,_,rfl⟩:=List.mem_map.1 hx;rfl) rfl;rw[<- List.map_take,<- List.map_drop,List.drop_take,V,Nat.add_sub_cancel_left,List.take_left];refine va ?_ (gX _);refine vk ?_;refine vi ?_;exact au (p+1+(rows ks).length,l1++rows ks) ⟨by simpa[wK]using b,by
     show t.drop (p+1+(rows ks).length)=_;rw[<- List.drop_drop,V,List.drop_left];simp[rows],by simp[rows];omega,by simp[rows];omega⟩ (f:=λk=>sw 0 31 k) (y':=⟨KG (λz=>some (SE.st 2 3 [.p (pI z)])) (by show _=((p+1+(rows ks).length:Nat):Int);omega),KG (λl=>some (SE.rw _ _ l)) (KB (f:=ndP)).symm,rfl,trivial⟩)
   ·have D:¬ n.op=2:=D
    rw[KY D]at e;subst e;exact au (p+1,l1) ⟨b,V,Us,Us⟩ (f:=λk=>sw 0 10 k)
  have W:bw n=(v.length:Int)/\bH cnt nx v n .tm 0/\eV' v=true:=by
   obtain⟨_,_,_,b0⟩:=eS hc;have e8:=nA hp
   by_cases D:n.op=2
   ·rw[KX D]at e
    subst e;exact⟨by simp[bw,D],trivial,rfl⟩
   ·rw[KY D]at e b0
    subst e;exact⟨Uo,a',b6⟩
  have b8:(rows v).length<=(rows ks).length:=by
   rw[e];split
   ·simp[rows]
   ·exact KJ _
  have b9:n.op=2 ->v=[]:=λh=>by rw[e,KX h]
  clear b hr h1 e hc
  rintro⟨p6,l6⟩ ⟨b,b1,b2,b3⟩;simp only at b b1 b2 b3;have e0:v.length<=(rows v).length:=by rw[rows_len];exact kP' v
  refine aD<|af (zq n ⟨b7.1,b7.2.1⟩) ?_;rw[W.1];refine VCode.blk<|aB τok (σ:=Nat×Nat×σ×List Nd×List Tr) [(0,_),(1,_),(2,_),(3,_),(4,_),(5,_),(7,_),(37,_)] [(1,_),(3,_),(5,_),(7,_)] (λq=>[(38,vI q.1)]) (λq=>(2,.st 2 3 [.p (pI q.2.1)])::(0,mQ q.2.2.2.1)::(4,.st 4 39 [.row 0])::EP T q.2.2.1) (λq=>q.1<=v.length/\q.2.2.2.2.length=v.length-q.1/\wK one cK q.2.2.2.2 n 0 q.1 d (q.2.2.1,q.2.2.2.1)=a3/\t.drop q.2.1=rows q.2.2.2.2++j/\q.2.2.2.1.length+wt q.2.2.1+G*(rows q.2.2.2.2).length<=M/\Q=q.2.1+(rows q.2.2.2.2).length/\bH cnt nx q.2.2.2.2 n .tm 0/\eV' q.2.2.2.2=true/\(rows q.2.2.2.2).length<=(rows ks).length) (λq=>v.length-q.1) (0,p6,u1,l6,v) ⟨KV _,rfl,b,b1,b2,b3,W.2.1,W.2.2,b8⟩ ?_
  clear b b1 b2 b3 O V
  rintro⟨i,p7,u7,l7,a5⟩ ⟨hi,R,b,E,X,Y,a6,Z,L⟩;simp only at hi R b E X Y a6 Z L;refine aj<|ae (λg=>?_) (λg=>?_);rotate_left
  ·have g:¬ (i:Int)<v.length:=g
   obtain rfl:a5=[]:=List.length_eq_zero_iff.1 Uo;simp only[wK]at b;subst b;obtain rfl:Q=p7:=by simpa[rows]using Y
   exact .inl ⟨_,_,_,λk=>sw 10 0 k,rfl,rfl,rfl,rfl,by repeat first|exact VQ|refine And.intro rfl ?_,rfl⟩
  have g:(i:Int)<v.length:=g
  match a5,R with
  |[],R=>simp at R;omega
  |y::r,R=>
  obtain⟨F,a7,a0⟩:=kt a6 Z;simp only[rows,JK,List.append_assoc,Nat.mul_add]at E X Y L;simp only[JV]at R;simp only[wK]at b;refine ae (λC=>?_) (λC=>?_)
  ·have C:n.op=12:=C
   have F:Ok .fn y:=by rwa [show nx Md.tm n 0= .fn by simp[nx,C]]at F
   obtain⟨f,H,I,rfl,f13,e9,b',c0⟩:=F.fn;have e':1<=n.b/\n.b<=4:=by
    have:aI n.b 1 4=true:=by simp[aw,C]at hp;exact hp.1
    exact dI.1 this
   obtain⟨Bn,c1⟩:∃Bn:Nat,n.b=Bn:=⟨n.b.toNat,Uo⟩
   have b4:H.n.op≠13:=by
    obtain⟨m,l⟩:=H;exact b'.tm.2.2
   have b5:I.n.op≠13:=by
    obtain⟨m,l⟩:=I;exact c0.tm.2.2
   rw[show row (.mk f [H,I])=f::(row H++row I) by simp[row,rows]]at E X Y L;simp only[List.cons_append,List.append_assoc,JV,JK]at E X Y L;obtain⟨c7,e2,c2⟩:=CM E;have c8:wT one cK (.mk f [H,I]) ((d:Int)+arC n 0 i) n.b (u7,l7)=match wT one cK H d 0 (u7,l7++[f])with
     |none=>none
     |some s1=>wT one cK I ((d+Bn:Nat):Int) 0 s1:=by
    have c9:bi n i=0:=by simp[bi,C]
    simp only[wT,f13,or_true,if_true,cK,wK];rw[mr a9,c9,show arC f n.b 0=0 by simp[arC,f13],show arC f n.b (0+1)=n.b by simp[arC,f13],xr b4 _ f.b 0,Int.add_zero,Int.add_zero];cases wT one cK H (d:Int) 0 (u7,l7++[f])with
    |none=>rfl
    |some s1=>
     simp only;rw[xr b5 _ f.b 0,c1,show (d:Int)+(Bn:Int)=((d+Bn:Nat):Int) by omega];cases wT one cK I ((d+Bn:Nat):Int) 0 s1<;>rfl
   rw[c8]at b;have c':G*1<=G*(rows ks).length:=Nat.mul_le_mul_left _ Uo;simp only[Nat.mul_add,Nat.mul_one]at X c';refine vm (p:=ndP) p7 c7 ?_;refine bg ?_;refine vk ?_;refine vi ?_;have o:=ih (row H).length Uo H (row I++(rows r++j)) (p7+1) u7 (l7++[f]) d (KJ _) b' c2 Uo (by rw[JK];simp only[JV,JU];omega);simp only[wM,mQ,KB]at o;cases K:wT one cK H d 0 (u7,l7++[f])with
   |none=>
    rw[K]at o b;subst b;refine mG (λk=>sw 0 50 k) o ?_;exact rfl
   |some s1=>
   rw[K]at o b;obtain⟨u8,l8⟩:=s1;have a1:=vp hG w H _ _ _ _ _ _ K;rw[JK]at a1;simp only[JV,JU]at a1;refine aZ (λk=>sw 0 50 k) (zu 94) o ?_;refine vi ?_;rw[c1];have a8:t.drop (p7+1+(row H).length)=row I++(rows r++j):=by rw[<- List.drop_drop,c2,List.drop_left]
   have a4:=ih (row I).length Uo I (rows r++j) (p7+1+(row H).length) u8 l8 (d+Bn) (KJ _) c0 a8 Uo Uo;cases a2:wT one cK I ((d+Bn:Nat):Int) 0 (u8,l8)with
   |none=>
    rw[a2]at a4;rw[show a3=none from b.symm.trans (by simp only;rw[a2])];refine mG (λk=>sw 0 10 k) a4 ?_;exact rfl
   |some s2=>
   rw[a2]at a4;obtain⟨u9,l9⟩:=s2;have b:wK one cK r n 0 ((i:Int)+1) d (u9,l9)=a3:=by rw[<- b];simp only;rw[a2]
   have d':=vp hG w I _ _ _ _ _ _ a2;refine aZ (λk=>sw 0 10 (sw 10 11 k)) (zu 94) a4 ?_;refine vi ?_;exact au (i+1,p7+1+(row H).length+(row I).length,u9,l9,r) ⟨by show i+1<=_;omega,by show r.length=_;omega,b,by rw[<- List.drop_drop,a8,List.drop_left],by show l9.length+wt u9+G*(rows r).length<=M;omega,by show Q=p7+1+(row H).length+(row I).length+(rows r).length;omega,a7,a0,by show (rows r).length<=_;omega⟩ (f:=λk=>sw 0 11 k)
  have C:¬ n.op=12:=C;have D:¬ n.op=2:=λh=>by
   rw[b9 h]at g;simp at g;omega
  have F:Ok .tm y:=by rwa [show nx Md.tm n 0= .tm by simp[nx,D,C]]at F
  have f':=xt n i;obtain⟨e1,c3⟩:∃e1:Nat,(d:Int)+bi n i=e1:=⟨((d:Int)+bi n i).toNat,Uo⟩
  have c4:y.n.op≠13:=by
   obtain⟨m,l⟩:=y;exact F.tm.2.2
  rw[mr a9,c3,xr c4 _ n.b 0]at b;have o:=ih (row y).length Uo y (rows r++j) p7 u7 l7 e1 (KJ _) F E Uo Uo;refine af (EL n i) ?_;refine vi ?_;rw[c3];cases K:wT one cK y e1 0 (u7,l7)with
  |none=>
   rw[K]at o b;subst b;refine mG id o ?_;refine vk ?_;exact rfl
  |some s1=>
   rw[K]at o b;obtain⟨u8,l8⟩:=s1;have a1:=vp hG w y _ _ _ _ _ _ K;refine aZ id (zu 94) o ?_;refine vk ?_;refine vi ?_;exact au (i+1,p7+(row y).length,u8,l8,r) ⟨by show i+1<=_;omega,by show r.length=_;omega,b,by rw[<- List.drop_drop,E,List.drop_left],by show l8.length+wt u8+G*(rows r).length<=M;omega,by show Q=p7+(row y).length+(rows r).length;omega,a7,a0,by show (rows r).length<=_;omega⟩ (f:=λk=>sw 0 10 k)
end
end Go.Q
namespace Go.Wx
theorem zv{P:Program}{f:FuncId}{i:List Nat}{m:List (Nat×SE)}(j:dO P f)(h:∀vs:List Value,vs.length=i.length ->∀w,CallsD P f vs.toArray .returning w λe l w'=>(∃v,e= .returned v)/\l= .returning/\Kp [] w w'):VD P f .returning i m m:=⟨j,λw X C ρ q=>(h (i.map ρ) Ud w).mono λe l w' ⟨r,s,d⟩=>⟨r,by rw[s];rfl,C,ρ,by
 have:=q.grow d (q.sub.kp d λ_ _ _ _ h=>by cases h) (λ_ _ _ h=>h) λb o v h=>.inl ⟨o,v,h⟩;exact⟨λt a z=>(by cases z),λk x d=>(by have:=this.ent k x d;cases x<;>exact this),this.sep,this.off,this.sub,this.c0,this.cn,this.kp⟩⟩⟩
theorem zw{P:Program}{w:World}{X:List Nat}{C:Mem}{ρ:Nat ->Value}{j:List Nat}{m m2:List (Nat×SE)}{n q p k T:Nat}{z:Int}{d:Code}{l:Act}(O:Rp w X C ⟨kD' (jU j) 0,m⟩ ⟨ini (j.map ρ) 0,[]⟩ w C ρ)
  (h:VCode P n d ⟨(p,.c (.p (.bool true)))::(q,.c (.ptr k 0))::kD' (jU j) 0,(k,.st 0 T [.p (pI z)])::m⟩ λe A=>e= .normal/\lH id A m2) (R:Fr n l ⟨(p,.bool true)::(q,.pointer (some ⟨w.heap.size,0,none⟩))::ini (j.map ρ) 0,[]⟩) (r:jV ⟨kD' (jU j) 0,m⟩ [k]=true:=by rfl) (s:dc id (keysOf m2)=true:=by rfl):
  d.wp P (λe I w'=>e= .normal/\∃s',Fr n I s'/\s'.d=[]/\∃C' ρ',Rp w X C ⟨[],m2⟩ ⟨[],[]⟩ w' C' ρ') l (w.alloc (Obj.cells #[.int .i64 z] T)):=by
 have r:=r7 r k Ud;have V:=O.fresh (s':=⟨(q,.pointer (some ⟨w.heap.size,0,none⟩))::ini (j.map ρ) 0,[]⟩) (w':=w.alloc (Obj.cells #[.int .i64 z] T)) (v:=.pointer (some ⟨w.heap.size,0,none⟩)) (x:=.st 0 T [.p (pI z)]) (wr:=[(q,.c (.ptr k 0))]) r (Kp.alloc _ _) (λg W=>Nat.le_of_eq (JB W)) ⟨w.heap.size,[.int .i64 z],gc _ _ _,by
  show (w.heap.push _)[_]?=_;simp,.inl ⟨rfl,KJ _⟩,rfl,λi c u K Y=>by
   cases i with
   |zero=>
    obtain rfl:=JB K;obtain rfl:=JB Y;exact⟨rfl,λ_=>RV.int _ _⟩
   |succ i=>simp at K⟩ (λt a D=>by
  obtain⟨rfl,rfl⟩:=bU D;exact⟨_,by rw[eQ,Nat.beq_refl],_,gc _ _ _,rfl⟩) λt b=>by
  rw[cG]at b;rw[eQ];cases E:Nat.beq q t with
  |true=>rw[E]at b;cases b
  |false=>rfl
 have Z:=V.slots (s':=⟨(p,.bool true)::(q,.pointer (some ⟨w.heap.size,0,none⟩))::ini (j.map ρ) 0,[]⟩) (wr:=[(p,.c (.p (.bool true)))]) (λt a D _=>by
  obtain⟨rfl,rfl⟩:=bU D;exact⟨_,by rw[eQ,Nat.beq_refl],RV.bool _⟩) λt b=>by
  rw[cG]at b;rw[eQ];cases E:Nat.beq p t with
  |true=>rw[E]at b;cases b
  |false=>rfl
 have L:=h.run _ _ _ _ _ ⟨C,_,Z⟩;unfold EvCode at L;refine Go.wp_mono (L l R) λe I w' ⟨s',F,hd,A',⟨he,hm⟩,H⟩=>⟨he,s',F,hd,?_⟩
 obtain⟨C',ρ',o⟩:=H.le (iG (f:=id) (B:=⟨[],m2⟩) VQ hm s);exact⟨C',ρ',λt a b=>(by cases b),o.ent,o.sep,o.off,o.sub,o.c0,o.cn,o.kp⟩
end Go.Wx
namespace Go.Q
theorem EB':VD prog 204 .returning [0,1] [] []:=by
 refine zv ⟨_,func204,rfl,UO⟩ λo i w=>?_;obtain⟨q,r,rfl⟩:=ya i;refine callsD_of_wpS func204 rfl λb v d=>?_;apply wpS_seq;apply wpS_region;simp[wpOpsS,go_sem,recoverD,d,Exit.thenS,Instr.typeAssert,underlying231,Tryz.zeroValue231];refine wpS_of_wp (Go.wp_mono (nw τok (n:=12) _ ⟨[(3,.bool false)],[]⟩ _ (λe s h=>e= .normal/\s.d=[]/\Kp [] w h) ?_ _ (oO Ud rfl Ud)) ?_)
 ·exact⟨rfl,rfl,Kp.alloc _ _⟩
 rintro e z h ⟨s,j,rfl,k,l⟩;exact ue j k rfl d ⟨⟨_,rfl⟩,rfl,l⟩
def wc(x y:PV):List (Nat×SE):=[(0,.st 1 39 [.p x]),(1,.st 2 29 [.p y])]
theorem Ll(er:Int){x y:PV}:VD prog 204 (.panicking (rl er)) [0,1] (wc x y) (wc (.raw (.slice none 0 0)) (pI er)):=by
 refine⟨⟨_,func204,rfl,UO⟩,λw X C ρ h=>?_⟩;refine callsD_of_wpS func204 rfl λd v i=>?_;apply wpS_seq;apply wpS_region;simp[wpOpsS,go_sem,recoverD,i,Exit.thenS,Instr.typeAssert,underlying231,Tryz.zeroValue231];refine wpS_of_wp (Go.wp_mono (zw (n:=12) (m2:=wc (.raw (.slice none 0 0)) (pI er)) (q:=2) (p:=3) (k:=2) h (aj ?_) (oO Ud rfl (by simp[ini]))) ?_)
 ·refine vk ?_
  exact⟨rfl,rfl,rfl,trivial⟩
 rintro e z D ⟨rfl,s,j,l,o,b,r⟩;exact xB j l rfl ⟨⟨_,rfl⟩,rfl,o,b,r⟩
def oA:Bool ->AV
 |true=>.c (.row 0)
 |false=>.c (.p (.raw (.slice none 0 0)))
def oM(l:List Nd)(m:List (Nat×SE)):Bool ->List (Nat×SE)
 |true=>(0,mQ l)::m
 |false=>m
def hW:Nat ->Nat
 |1=>3
 |2=>8
 |3=>5
 |5=>9
 |k=>k
def wR{σ:Type}(c:σ ->List (Nat×List AC))(er:Int):Option (σ×List Nd) ->AV×List (Nat×SE)
 |some s=>(.tp [.row 10,.p (pI 0)],(10,mQ s.2)::exL (c s.1) 100 1)
 |none=>(.c (.p (.tup [.sl [],pI er])),[])
section
variable{σ:Type}(c:σ ->List (Nat×List AC))(f:FuncId)
theorem zx(h:zt c)(wt:σ ->Nat)(one:σ×List Nd ->Nd ->Int ->Option (σ×List Nd))(M:Nat)(er:Int)(G:Nat)(v:1<=G)(w:M<=100000000)(i:One c f wt one M er)(e:∀u l n d o q,one (u,l) n d=some (o,q) ->q.length+wt o<=l.length+wt u+G)
  (b:Bool) (x:Tr) (z:Ok .tm x) (s:(row x).length<=20000) (u:σ) (l:List Nd) (hb:b=false ->l=[]) (hl:l.length+wt u+G*(row x).length<=M):VG prog 174 [.c (.p (ah (row x))),oA b,.c (.fn f [100,101])] (oM l (exL (c u) 100 1) b) (.ok (wR c er (wT one cK x 0 0 (u,l)))):=by
 have j:=Lk c f (row x) h wt one M er G v w i e Uo _ x [] 0 u l 0 (KJ _) z Ud Uo hl;rw[show ((0:Nat):Int)=0 from rfl]at j
 generalize wT one cK x 0 0 (u,l)=r at j ⊢
 rcases r with _|⟨o,q⟩
 all_goals
  obtain⟨C,D,E,F,H,g,I,K,L,O,rfl|rfl|rfl|rfl⟩:=h
  all_goals
   cases b
   all_goals
    refine sB 15 [.cell 6 39,.cell 7 29] τok func174 ?_;refine aj<|⟨⟨rfl,rfl,rfl⟩,rfl,λfv=>?_⟩
    first
     |obtain rfl:=hb rfl
      refine kJ 4 0 0 47 3 rfl rfl rfl UO ?_
     |skip
    refine aj ?_
    first
     |refine mG hW j ?_
      refine kM (λk=>k+6) (λ_=>0) (Ll er) ?_;exact .inl ⟨_,_,_,id,rfl,rfl,rfl,rfl,trivial,rfl⟩
     |refine aZ hW (λk=>k-99) j ?_
      refine kM (λk=>k+6) (λ_=>0) EB' ?_;exact .inr ⟨_,id,rfl,rfl,by repeat first|exact VQ|refine And.intro rfl ?_,rfl⟩
end
theorem Ln(t:List Nd)(H:t.length<=1000000000)(d c:Nat)(ha:d<=2000000000)(hc:c<=1000):VC prog 64 [ah t,pI d,pI c] (pI (opI (gM t c (-1) d))):=by
 have I:=aq ndP t;generalize o:opI (gM t c (-1) d)=e;refine vf 49 [.tmp 6] τok func64 ?_;refine vl τok (σ:=Nat×Int×Nat) [(0,_),(8,_)] (λq=>[(1,vI q.2.2),(7,vI q.2.1),(9,vI q.1)]) (λq=>q.1<=c/\q.2.2<=max d t.length/\opI (gM t (c-q.1) q.2.1 q.2.2)=e) (λq=>c-q.1) (0,-1,d) ⟨KV _,Nat.le_max_left _ _,o⟩ ?_;rintro⟨i,j,p⟩ ⟨E,F,b⟩;simp only at E F b;have w:opI none=e ->gs' [PV.nz (pI (-1))]=pI e:=λh=>by rw[<- h];rfl
 refine ae (λg=>?_) (λg=>?_);rotate_left
 ·rw[show c-i=0 by omega]at b
  exact⟨_,_,rfl,rfl,KG (PV.int .i64) b⟩
 obtain⟨k,z⟩:∃k,c-i=k+1:=⟨c-i-1,Uo⟩
 rw[z]at b;simp only[gM]at b;refine ae (λr=>?_) (λr=>?_)
 ·have r:(p:Int)≥((t.map ndP).length:Int):=r
  rw[QF Uo]at b;exact⟨_,_,rfl,rfl,w b⟩
 have r:¬ (p:Int)≥((t.map ndP).length:Int):=r;obtain⟨n,s,_⟩:=az (l:=t) (k:=p);rw[s]at b;simp only at b;refine vm p s ?_;refine ae (λC=>?_) (λC=>?_)
 ·rw[KY λq=>C q.1]at b
  exact⟨_,_,rfl,rfl,w b⟩
 refine vm p s ?_;refine bN (zp n) (λD=>?_) (λD=>?_);rotate_left
 ·rw[KY λq=>by rw[D]at q;exact absurd q.2.1 UO]at b
  exact⟨_,_,rfl,rfl,w b⟩
 refine vm p s ?_;refine ae (λv=>?_) (λv=>?_)
 ·have v:n.a<=j:=v
  rw[KY λq=>by have:=q.2.2;omega]at b;exact⟨_,_,rfl,rfl,w b⟩
 have v:¬ n.a<=j:=v;rw[KX ⟨QY C,D,Uo⟩]at b;refine vm p s ?_;refine vi ?_;refine vi ?_;exact au (i+1,n.a,p+1) ⟨by show i+1<=c;omega,by show p+1<=max d t.length;omega,by show opI (gM t (c-(i+1)) n.a (p+1))=e;rw[show c-(i+1)=k by omega];exact b⟩
theorem EQ(t:List Nd)(ht:t.length<=1000000000):∀(N:Nat) (w:Int),-1<=w ->w<=1000000000 ->(0<=w ->t.length-w.toNat<=N) ->VC prog 34 [ah t,pI w] (pI (pH t w)):=by
 intro N
 induction N using Nat.strongRecOn with
 |_ N ih=>
 intro w a4 a5 hN;have eT:=aq ndP t;refine vf 90 [.tmp 4] τok func34 ?_;refine ae (λg0=>?_) (λg0=>?_)
 ·exact aF (h3:=by unfold pH;rw[KX g0];rfl)
 obtain⟨b,rfl⟩:∃n:Nat,w=n:=⟨w.toNat,Uo⟩
 have hN:t.length-b<=N:=hN Uo;rw[rj];generalize d:opI (endS t .tm b)=j;have e:(∀m,t[b]?=some m ->cnt .tm m=none) ->gs' [PV.nz (pI (-1))]=pI j:=λh=>by
  rw[ud t .tm h]at d;rw[<- d]
  rfl
 refine ae (λg1=>?_) (λg1=>?_)
 ·exact⟨_,_,rfl,rfl,e λn s=>by rw[QF Uo]at s;cases s⟩
 have K:b<t.length:=Uo
 obtain⟨n,s,_⟩:=az K;have W:(∀m,m=n ->cnt .tm m=none) ->gs' [PV.nz (pI (-1))]=pI j:=λh=>e λm v=>h m (by rw[s]at v;exact(JB v).symm);refine vm b s ?_;refine bN (zp n) (λE=>?_) (λE=>?_);rotate_left
 ·exact⟨_,_,rfl,rfl,W λm h=>by subst h;simp[cnt,E]⟩
 refine vm b s ?_;refine ae (λX=>?_) (λX=>?_)
 ·exact⟨_,_,rfl,rfl,W λm h=>by subst h;simp[cnt,X]⟩
 refine vm b s ?_;refine ae (λY=>?_) (λY=>?_)
 ·exact⟨_,_,rfl,rfl,W λm h=>by subst h;simp[cnt,Y]⟩
 refine vm b s ?_;refine vi ?_;have L:=dn E;refine ae (λF=>?_) (λF=>?_)
 ·obtain⟨c,O⟩:∃c:Nat,n.b=c:=⟨n.b.toNat,Uo⟩
  rw[Cz t s F E,O,Int.toNat_natCast]at d;have:=Ln t ht (b+1) c Uo Uo;rw[d,<- O]at this;refine af this ?_;exact aF
 have a6:=nA E;refine af (zq n ⟨L.1,L.2.1⟩) ?_;obtain⟨c,O⟩:∃c:Nat,bw n=c:=⟨(bw n).toNat,Uo⟩
 rw[O];have Z:cnt .tm n=some c:=by simp[cnt,E,X,Y,F,O]
 obtain⟨C,l⟩:∃C,C=(if n.op=12 then Md.fn else Md.tm):=⟨_,rfl⟩
 rw[ri t .tm s Z (λ_=>F) (s':=C) (λk=>by simp[nx,F,l]) F]at d;refine aB τok (σ:=Nat×Nat) [(0,_),(5,_),(53,_)] [(5,_)] (λq=>[(1,vI q.2),(54,vI q.1)]) (λ_=>[]) (λq=>q.1<=c/\b<q.2/\q.2<=t.length/\opI (gL t C (c-q.1) q.2)=j) (λq=>c-q.1) (0,b+1) ⟨KV _,Nat.lt_succ_self _,K,d⟩ ?_
 clear d
 rintro⟨i,p⟩ ⟨hi,a0,a1,o⟩;simp only at hi a0 a1 o;refine aD<|ae (λg=>?_) (λg=>?_);rotate_left
 ·rw[show c-i=0 by omega]at o
  exact aj<|⟨_,_,rfl,rfl,KG (PV.int .i64) o⟩
 obtain⟨k,a2⟩:∃k,c-i=k+1:=⟨c-i-1,Uo⟩
 rw[a2]at o;simp only[gL]at o;refine aD<|VCode.seq (VCode.blk<|dd τok (σ:=Option Nat) [(0,_),(5,_),(53,_),(54,_)] [(5,_)] (λr=>[(1,vI (opI r))]) (λ_=>[]) (λr=>(∀z,r=some z ->p<=z/\z<=t.length)/\opI ((r.bind λa=>endS t .tm a).bind λa=>gL t C k a)=j) ?_ ?_)
 ·refine ae (λD=>?_) (λD=>?_)
  ·rw[KX D]at l
   have R:(∀m,t[p]?=some m ->cnt .fn m=none) ->gs' [PV.nz (pI (-1))]=pI j:=λh=>by
    rw[l,ud t .fn h]at o;rw[<- o]
    rfl
   refine ae (λq1=>?_) (λq1=>?_)
   ·exact⟨_,_,rfl,rfl,R λm v=>by rw[QF Uo]at v;cases v⟩
   have T:p<t.length:=Uo
   obtain⟨m,v,_⟩:=az T;have V:(∀x,x=m ->cnt .fn x=none) ->gs' [PV.nz (pI (-1))]=pI j:=λh=>R λx hx=>h x (by rw[v]at hx;exact(JB hx).symm);refine vm p v ?_;refine ae (λH=>?_) (λH=>?_)
   ·exact⟨_,_,rfl,rfl,V λx h=>by subst h;simp[cnt,H]⟩
   have H:m.op=13:=QY H;refine vm p v ?_;refine bN (zp m) (λq3=>?_) (λq3=>?_);rotate_left
   ·exact⟨_,_,rfl,rfl,V λx h=>by subst h;simp[cnt,q3]⟩
   refine vi ?_;have a3:endS t C p=gL t .tm 2 (p+1):=by
    rw[l];exact ri t .fn v (c:=2) (by simp[cnt,H,q3]) (λh=>by cases h) (s':=.tm) (λk=>rfl) (by rw[H];decide)
   rw[a3]at o;simp only[gL]at o;have h7:=ih (t.length-(p+1)) Uo ((p+1:Nat):Int) Uo Uo (λ_=>Uo);rw[rj]at h7;refine af h7 ?_;refine au (endS t .tm (p+1)) ⟨λz I=>by have:=CA I;omega,?_⟩;rw[<- o];cases endS t .tm (p+1)with
   |none=>rfl
   |some z=>cases h:endS t .tm z<;>simp[h]
  ·rw[KY D]at l
   refine au (some p) ⟨λz I=>by cases I;omega,?_⟩;rw[<- o,l];cases h:endS t .tm p<;>simp[h]
 rintro r ⟨m1,m2⟩;refine aj ?_;have h9:=ih (t.length-p) Uo (opI r) (by cases r<;>simp only[opI]<;>omega) (by cases r with
  |none=>simp[opI]
  |some z=>have:=m1 z rfl;simp only[opI];omega) (λ_=>by cases r with
  |none=>simp[opI]at *
  |some z=>have:=m1 z rfl;simp only[opI,Int.toNat_natCast];omega)
 have e9:pH t (opI r)=opI (r.bind λa=>endS t .tm a):=by cases r with
  |none=>rfl
  |some z=>exact rj t z
 rw[e9]at h9;refine af h9 ?_;have m3:∀z,(r.bind λa=>endS t .tm a)=some z ->p<z/\z<=t.length:=λz I=>by
  cases r with
  |none=>cases I
  |some y=>
   have:=m1 y rfl;have:=CA I;omega
 generalize (r.bind λa=>endS t .tm a)=r9 at *
 refine ae (λg9=>?_) (λg9=>?_)
 ·cases r9 with
  |none=>exact⟨_,_,rfl,rfl,KG (PV.int .i64) m2⟩
  |some z=>exact absurd g9 (by simp only[opI];omega)
 cases r9 with
 |none=>exact absurd (show opI none<0 by decide) g9
 |some z=>
  have:=m3 z rfl;refine aj<|vi ?_;exact au (i+1,z) ⟨by show i+1<=c;omega,by show b<z;omega,by show z<=t.length;omega,by show opI (gL t C (c-(i+1)) z)=j;rw[show c-(i+1)=k by omega];exact m2⟩
theorem Lo(t:List Nd):pH t 0=opI (endS t .tm 0):=rj t 0
theorem kN(t:List Nd)(e:t.length<=1000000000):VC prog 66 [ah t] (pI (fF t)):=by
 have i:=aq ndP t;refine vf 11 [.tmp 2] τok func66 ?_;refine ae (λg=>?_) (λg=>?_)
 ·exact aF (h3:=by unfold fF;rw[KX Uo];rfl)
 refine af (EQ t e t.length 0 UO UO λ_=>Uo) ?_;have d:=CE t;rw[Lo];refine ae (λb=>?_) (λb=>?_)
 ·exact aF (h3:=by unfold fF;rw[KY Uo,KY λq=>b (by rw[d.2 q,i];rfl)];rfl)
 ·refine⟨_,_,rfl,rfl,?_⟩
  have b:opI (endS t .tm 0)=((t.map ndP).length:Int):=QY b;unfold fF;rw[KY Uo,KX (d.1 ?_)]
  ·rfl
  ·cases h:endS t .tm 0 with
   |none=>rw[h]at b;simp only[opI]at b;omega
   |some z=>rw[h]at b;simp only[opI]at b;congr 1;omega
def zW{σ:Type}(_:σ):Nat:=0
theorem qh{l:List Nd}{m:Nd}:l.map ndP++[ndP m]=(l++[m]).map ndP:=by rw[KB];rfl
theorem Lp{T:Type}{fr by_:Int}{M:Nat}(q:0<=fr/\fr<=4194304)(hb:0<=by_/\by_<=4611686018427387904)(s:M<=100000000):One (λ_:T=>[(3,[.p (pI fr)]),(3,[.p (pI by_)])]) 189 zW (iA (fE by_ fr)) M 6:=by
 intro u l n d j v z;have o:=dn j;generalize b:iA (fE by_ fr) (u,l) n d=r;unfold iA at b;refine cQ 36 [.tmp 8] τok func189 ?_;refine aD ?_
 by_cases e:n.op=1
 ·rw[KX e]at b
  unfold fE at b
  by_cases h:n.a≥fr+(d:Int)
  ·rw[KX h]at b
   by_cases i:by_>1048576-n.a
   ·rw[KX i]at b
    subst b;refine aj<|vy ?_ e;refine vi ?_;refine vy ?_ h;refine vi ?_;refine vy ?_ i;exact sr (λw=>by simp[Instr.makeInterface,underlying231,go_sem])<|rfl
   ·rw[KY i]at b
    obtain rfl:r=some (u,l++[{n with a:=n.a+by_}]):=by rw[<- b];simp[row,rows]
    refine aj<|vy ?_ e;refine vi ?_;refine vy ?_ h;refine vi ?_;refine vn ?_ i;refine vi ?_;refine bg ?_;exact .inr ⟨_,λk=>sw 10 35 k,rfl,rfl,⟨KG (λl=>some (SE.rw _ _ l)) (qh (m:={n with a:=n.a+by_})),rfl,rfl,trivial⟩,rfl⟩
  ·rw[KY h]at b
   obtain rfl:r=some (u,l++[n]):=by rw[<- b];simp[row,rows]
   refine aj<|vy ?_ e;refine vi ?_;refine vn ?_ h;refine bg ?_;exact .inr ⟨_,λk=>sw 10 35 k,rfl,rfl,⟨KG (λl=>some (SE.rw _ _ l)) qh,rfl,rfl,trivial⟩,rfl⟩
 ·rw[KY e]at b
  obtain rfl:r=some (u,l++[n]):=b.symm;refine aj<|vn ?_ e;refine bg ?_;exact .inr ⟨_,λk=>sw 10 35 k,rfl,rfl,⟨KG (λl=>some (SE.rw _ _ l)) qh,rfl,rfl,trivial⟩,rfl⟩
theorem Lq{by_ fr:Int}:∀(u:Unit) l n d b h,iA (fE by_ fr) (u,l) n d=some (b,h) ->h.length+zW b<=l.length+zW u+1:=λu l n d b h e=>xC (KJ 1) (λd n y e=>by rw[CP e];exact KJ _) u l n d b h e
def bR(l:List Nd)(er:Int):Option Tr ->AV×List (Nat×SE)
 |some y=>(.tp [.row 10,.p (pI 0)],[(10,mQ (l++row y))])
 |none=>(.c (.p (.tup [.sl [],pI er])),[])
theorem ER(b:Bool){x:Tr}(i:Ok .tm x)(d:(row x).length<=20000)(l:List Nd)(hb:b=false ->l=[])(hl:l.length<=90000000){by_ fr:Int}(j:0<=fr/\fr<=4194304)(e:0<=by_/\by_<=4611686018427387904):VG prog 159 [oA b,.c (.p (ah (row x))),.c (.p (pI by_)),.c (.p (pI fr))] (oM l [] b) (.ok (bR l 6 (ln x by_ fr))):=by
 have h:=zx _ _ ⟨_,_,0,0,0,0,_,_,λ_=>.unk,λ_=>.unk,.inl rfl⟩ zW (iA (fE by_ fr)) 100000000 6 1 (KJ _) (KJ _) (Lp j e (KJ _)) Lq b x i d () l hb (by unfold zW;omega);rw[GM' x .tm 0 0 () l i.1,show gT (fE by_ fr) x 0 0=ln x by_ fr from rfl]at h
 generalize ln x by_ fr=r at h ⊢
 rcases r with _|y
 all_goals
  cases b
  all_goals
   refine cQ 16 [.tmp 8,.tmp 9] τok func159 ?_;refine aj<|aZ (λk=>sw 100 7 (sw 101 6 k)) (λ_=>0) h ?_
   first
    |exact .inl ⟨_,_,_,id,rfl,rfl,rfl,rfl,trivial,rfl⟩
    |exact .inr ⟨_,id,rfl,rfl,⟨rfl,trivial⟩,rfl⟩
theorem ES{x:Tr}(d:Ok .tm x)(e:dR x)(b:(row x).length<=4096){by_ fr:Int}(hb:0<=by_/\by_<=500000)(j:0<=fr/\fr<=1048577):VC prog 123 [ah (row x),pI by_,pI fr] (.tup [ah (row (aG x by_ fr)),pI 0]):=by
 have h:=ER false d Uo [] (λ_=>rfl) Ud (by_:=by_) (fr:=fr) Uo Uo;rw[ms d e hb.2]at h;have i:=kN (row x) Uo;rw[kx d b]at i;refine vf 27 [.tmp 6,.tmp 7] τok func123 ?_;refine af i ?_;refine vn ?_ UO;refine vn ?_;refine vn ?_;refine aZ id (λ_=>0) (show VG _ _ [_,_,.c (.p (pI by_)),.c (.p (pI (min fr 1048577)))] _ _ by rw[show min fr 1048577=fr by omega];exact h) ?_;exact aF
section
variable{S:Type}
def ET(c:S ->List (Nat×List AC))(ks:List Nat):Prop:=∃(T0 T1 T2:Nat) (p0 p1 p2:S ->PV),
 (c=λu=>[(T0,[.p (p0 u)])])/\ks=[102] \/(c=λu=>[(T0,[.p (p0 u)]),(T1,[.p (p1 u)]),(T2,[.p (p2 u)])])/\ks=[102,103,104] \/(c=λu=>[(T0,[.p (p0 u)]),(T1,[.p (p1 u)])])/\ks=[102,103]
def sC(c:S ->List (Nat×List AC))(g:FuncId)(ks:List Nat)(wt:S ->Nat)(met:S ->Int ->Int ->S×Bool)(M:Nat):Prop:=
 ∀(s:S) (a:Int) (d:Nat),0<=a ->a<=1048576 ->d<=100000 ->wt s<=M ->VG prog g (.c (.p (pI a)):: .c (.p (pI d))::jU ks) (exL (c s) 102 1) (.ok (.c (.p (.bool (met s a d).2)),exL (c (met s a d).1) 102 1))
def eC(c:S ->List (Nat×List AC))(g:FuncId)(ks:List Nat)(p:Bool×S):List (Nat×List AC):=(4,[.p (.bool p.1)])::(220,[.fn g ks])::c p.2
variable{c:S ->List (Nat×List AC)}{g:FuncId}{ks:List Nat}{wt:S ->Nat}{met:S ->Int ->Int ->S×Bool}{M:Nat}
theorem Lr(i:ET c ks)(b:sC c g ks wt met M)(v:M<=1000000):One (eC c g ks) 203 (λp=>wt p.2) (nC met) M 6:=by
 rintro⟨j,s⟩ l n d o q r;have e:=dn o;simp only[nC];obtain⟨w,z,C,D,E,F,⟨rfl,rfl⟩|⟨rfl,rfl⟩|⟨rfl,rfl⟩⟩:=i
 all_goals
  refine cQ 23 [.tmp 8] τok func203 ?_;cases j
  ·by_cases h:n.op=1
   ·rw[KX h]
    refine aj<|vy ?_ h;refine aZ id (λk=>k-99) (b s n.a d e.2.2.1 e.2.2.2 q (by simp only at r;omega)) ?_;exact .inr ⟨_,λk=>sw 10 0 k,rfl,rfl,by repeat first|exact VQ|refine And.intro rfl ?_,rfl⟩
   ·rw[KY h]
    refine aj<|vn ?_ h;exact .inr ⟨_,λk=>sw 10 0 k,rfl,rfl,by repeat first|exact VQ|refine And.intro rfl ?_,rfl⟩
  ·rw[show (if n.op=1 then nB met (true,s) n.a d else (true,s))=(true,s) by simp[nB]]
   exact aj<|.inr ⟨_,λk=>sw 10 0 k,rfl,rfl,by repeat first|exact VQ|refine And.intro rfl ?_,rfl⟩
theorem zy(b:ET c ks)(h:sC c g ks wt met 1000000)(q:∀s a d,wt (met s a d).1<=wt s+1){x:Tr}(D:Ok .tm x)(i:(row x).length<=20000)(s:S)(I:wt s<=900000):VG prog 171 [.c (.p (ah (row x))),.c (.fn g ks)] (exL (c s) 102 1) (.ok (.c (.p (.bool (gr met (false,s) (varsT x 0 0)).1)),exL (c (gr met (false,s) (varsT x 0 0)).2) 102 1)):=by
 have r:zt (eC c g ks):=by
  obtain⟨j,v,E,o,w,F,⟨rfl,rfl⟩|⟨rfl,rfl⟩|⟨rfl,rfl⟩⟩:=b
  ·exact⟨_,_,j,0,0,g,λp=>.bool p.1,λp=>o p.2,λ_=>.unk,λ_=>.unk,.inr (.inl rfl)⟩
  ·exact⟨_,_,j,v,E,g,λp=>.bool p.1,λp=>o p.2,λp=>w p.2,λp=>F p.2,.inr (.inr (.inl rfl))⟩
  ·exact⟨_,_,j,v,0,g,λp=>.bool p.1,λp=>o p.2,λp=>w p.2,λ_=>.unk,.inr (.inr (.inr rfl))⟩
 have z:=zx (eC c g ks) 203 r (λp=>wt p.2) (nC met) 1000000 6 1 (KJ _) UO (Lr b h (KJ _)) (λu l n d K H e=>by
  simp only[nC,QZ,Prod.mk.injEq]at e;rw[<- e.1,<- e.2];split
  ·unfold nB
   split
   ·omega
   ·have:=q u.2 n.a d
    simp only;omega
  ·omega) false x D i (false,s) [] (λ_=>rfl) (by simp only[JU];omega)
 obtain⟨H,C⟩:=wT_e met x .tm 0 0 (false,s) [] D.1;rw[C]at z
 generalize gr met (false,s) (varsT x 0 0)=p at z ⊢
 obtain⟨j,v,E,o,w,F,⟨rfl,rfl⟩|⟨rfl,rfl⟩|⟨rfl,rfl⟩⟩:=b
 all_goals
  refine cQ 10 [.tmp 4] τok func171 ?_;refine aj<|aZ (λk=>sw 100 5 (sw 101 3 k)) (λk=>k-101) z ?_;exact .inl ⟨_,_,_,id,rfl,rfl,rfl,rfl,by repeat first|exact VQ|refine And.intro rfl ?_,rfl⟩
end
theorem Ls(n:Int):sC (λ_:Unit=>[(3,[.p (pI n)])]) 187 [102] zW (λ_ a d=>((),decide (max n 0<=a-d))) 1000000:=by
 intro s a d e b i _;refine cQ 12 [.tmp 5] τok func187 ?_;refine aj<|vi ?_;refine ae (λh=>?_) (λh=>?_)
 ·exact .inl ⟨_,_,_,id,rfl,rfl,rfl,KG PV.bool (KU h).symm,⟨rfl,trivial⟩,rfl⟩
 ·exact .inl ⟨_,_,_,id,rfl,rfl,rfl,KG PV.bool (KH h).symm,⟨rfl,trivial⟩,rfl⟩
theorem Lt{x:Tr}(e:Ok .tm x)(b:(row x).length<=4096)(n:Int):VC prog 157 [ah (row x),pI n] (.bool (ku x n)):=by
 have h:=kN (row x) Uo;rw[kx e b]at h;have i:=zy ⟨_,0,0,λ_=>pI n,λ_=>.unk,λ_=>.unk,.inl ⟨rfl,rfl⟩⟩ (Ls n) (λ_ _ _=>KV _) e Uo () (KV _);rw[uf λa d=>decide (max n 0<=a-d),Bool.false_or]at i;refine vf 14 [.tmp 4] τok func157 ?_;refine af h ?_;refine vy ?_ rfl;refine aZ (λk=>sw 102 3 k) (λ_=>0) i<|⟨_,_,rfl,rfl,?_⟩;show PV.bool _=_;unfold ku;rw[List.any_eq_not_all_not,Bool.not_not]
 congr 2
 funext q
 rw[<- decide_not];exact decide_eq_decide.2 Uo
def wS(s:Int×Int):Nat:=if s.1<0 then 2000000 else s.1.toNat
abbrev qj(v:Int)(s:Int×Int)(a d:Int):(Int×Int)×Bool:=(if a-d=v then (s.1+1,max s.2 d)else s,false)
abbrev Lu(v:Int)(s:Int×Int):List (Nat×List AC):=[(3,[.p (pI v)]),(3,[.p (pI s.1)]),(3,[.p (pI s.2)])]
theorem Lw(v:Int):sC (Lu v) 172 [102,103,104] wS (qj v) 1000000:=by
 intro s a d i e j b;have k:0<=s.1/\s.1<=1000000:=by
  unfold wS at b;split at b<;>omega
 refine cQ 18 [.tmp 7] τok func172 ?_
 by_cases h:a-d=v
 ·rw[show qj v s a d=((s.1+1,max s.2 d),false) by simp[qj,h]]
  refine aj<|vi ?_;refine vy ?_ h;refine vi ?_;exact dA
 ·rw[show qj v s a d=(s,false) by simp[qj,h]]
  refine aj<|vi ?_;refine vn ?_ h;exact dA
theorem Lx{v b:Int}(k:0<=v/\v<=300000)(i:0<=b/\b<=100000):sC (λ_:Unit=>[(3,[.p (pI v)]),(3,[.p (pI b)])]) 173 [102,103] zW (λ_ a d=>((),decide (d<=a) && decide (1048576<a-d+v+b))) 1000000:=by
 intro s a d l j o _;refine cQ 20 [.tmp 6] τok func173 ?_;refine aj<|ae (λh=>?_) (λh=>?_)
 ·have h:(d:Int)<=a:=h
  refine vi ?_;refine vi ?_;refine vi ?_;refine ae (λe=>?_) (λe=>?_)
  ·exact .inl ⟨_,_,_,id,rfl,rfl,rfl,KG PV.bool (show true=(decide ((d:Int)<=a) && decide (_<_)) by rw[KU h,KU e];rfl),⟨rfl,rfl,trivial⟩,rfl⟩
  ·exact .inl ⟨_,_,_,id,rfl,rfl,rfl,KG PV.bool (show false=(decide ((d:Int)<=a) && decide (_<_)) by rw[KH e,Bool.and_false]),⟨rfl,rfl,trivial⟩,rfl⟩
 ·have h:¬ (d:Int)<=a:=h
  exact .inl ⟨_,_,_,id,rfl,rfl,rfl,KG PV.bool (show false=(decide ((d:Int)<=a) && _) by rw[KH h];rfl),⟨rfl,rfl,trivial⟩,rfl⟩
theorem Ly{u:Tr}(q:Ok .tm u)(j:dR u)(w:(row u).length<=4096){v:Int}(F:0<=v/\v<=300000):One (λ_:Unit=>[(3,[.p (pI v)]),(39,[.p (ah (row u))])]) 175 zW (iA (fG u v)) 90000000 6:=by
 intro s l n d C H D;have E:=dn C;generalize b:iA (fG u v) (s,l) n d=r;unfold iA at b;refine cQ 51 [.tmp 8] τok func175 ?_
 by_cases e:n.op=1
 ·rw[KX e]at b
  unfold fG at b
  by_cases i:n.a=v+(d:Int)
  ·rw[KX i]at b
   have z:=ER true q Uo l (λh=>by cases h) (by unfold zW at D;omega) (by_:=v+d) (fr:=0) Uo Uo;rw[ms q j Uo]at z;obtain rfl:r=some (s,l++row (aG u (v+d) 0)):=by
    rw[<- b];simp only[kw];rw[KX Uo]
   refine aj<|vy ?_ e;refine vi ?_;refine vy ?_ i;refine vi ?_;refine aZ id (λ_=>0) z ?_;exact .inr ⟨_,id,rfl,rfl,⟨rfl,rfl,rfl,trivial⟩,rfl⟩
  ·rw[KY i]at b
   by_cases o:n.a>v+(d:Int)
   ·rw[KX ⟨o,Uo⟩]at b
    obtain rfl:r=some (s,l++[{n with a:=n.a-1}]):=by rw[<- b];simp[row,rows]
    refine aj<|vy ?_ e;refine vi ?_;refine vn ?_ i;refine vy ?_ e;refine vi ?_;refine vy ?_ o;refine vi ?_;refine bg ?_;exact .inr ⟨_,λk=>sw 10 50 k,rfl,rfl,⟨KG (λl=>some (SE.rw _ _ l)) (qh (m:={n with a:=n.a-1})),rfl,rfl,trivial⟩,rfl⟩
   ·rw[KY Uo]at b
    obtain rfl:r=some (s,l++[n]):=by rw[<- b];simp[row,rows]
    refine aj<|vy ?_ e;refine vi ?_;refine vn ?_ i;refine vy ?_ e;refine vi ?_;refine vn ?_ o;refine bg ?_;exact .inr ⟨_,λk=>sw 10 50 k,rfl,rfl,⟨KG (λl=>some (SE.rw _ _ l)) qh,rfl,rfl,trivial⟩,rfl⟩
 ·rw[KY e]at b
  obtain rfl:r=some (s,l++[n]):=b.symm;refine aj<|vn ?_ e;refine vn ?_ e;refine bg ?_;exact .inr ⟨_,λk=>sw 10 50 k,rfl,rfl,⟨KG (λl=>some (SE.rw _ _ l)) qh,rfl,rfl,trivial⟩,rfl⟩
theorem Lz{x u:Tr}(w:Ok .tm x)(C:Ok .tm u)(i:dR u)(L:(row x).length<=4096)(j:(row u).length<=4096){v:Int}(O:0<=v/\v<=300000):VC prog 137 [ah (row x),ah (row u),pI v] (if gN x u v=true then .tup [.sl [],pI 9]else .tup [ah (row (fH x u v)),pI 0]):=by
 have D:=kN (row x) Uo;rw[kx w L]at D;have E:=kN (row u) Uo;rw[kx C j]at E;have W:=aq ndP (row x);have R:=aq ndP (row u);have o:=zy ⟨_,_,_,λ_=>pI v,λs=>pI s.1,λs=>pI s.2,.inr (.inl ⟨rfl,rfl⟩)⟩ (Lw v) (λs a d=>by
  unfold qj wS;simp only;split
  ·simp only
   split<;>split<;>omega
  ·omega) w Uo (0,0) UO
 rw[CQ v]at o;have T:=xD v (varsT x 0 0) (0,0) (4*(row x).length) UO UO Us λq K=>by
  have:=fj' x .tm 0 0 w.1 UO UO UO q K;omega
 have X:=gL' x 0 0;obtain⟨b,r⟩:∃b,oP x v=b:=⟨_,rfl⟩
 unfold oP at r;rw[r]at o T;obtain⟨t1,t2,t3,t4⟩:=T;simp only at t2;have F:=zy ⟨_,_,0,λ_=>pI v,λ_=>pI b.2,λ_=>.unk,.inr (.inr ⟨rfl,rfl⟩)⟩ (Lx O ⟨t3,Uo⟩) (λ_ _ _=>KV _) C Uo () (KV _);rw[uf λa d=>decide (d<=a) && decide (1048576<a-d+v+b.2),Bool.false_or,List.any_eq_false.2 λq K=>by
  have h1:=i q K;have h2:=fj' u .tm 0 0 C.1 UO UO UO q K;simp;omega]at F
 refine cN 50 [.tmp 6,.tmp 7] τok func137 ?_;refine aD<|aD<|af D ?_;refine vn ?_ UO;refine aD<|af E ?_;refine vn ?_ UO;refine aD<|vn ?_;refine aD<|aD<|aD ?_;have Y:min v 1048577=v:=Uo
 refine aZ (λk=>sw 102 5 (sw 103 10 (sw 104 11 k))) (λ_=>0) o ?_ (he:=by rw[Y];repeat first|exact VQ|refine And.intro rfl ?_);refine dd τok (σ:=Unit) [(0,_),(4,_),(5,_),(10,_)] [(4,_),(5,.st 0 3 [.p (pI v)]),(10,.st 0 3 [.p (pI b.1)])] (λ_=>[]) (λ_=>[]) (λ_=>True) ?_ ?_
 ·refine ae (λg=>?_) (λg=>?_)
  ·refine aZ (λk=>sw 102 5 (sw 103 11 k)) (λ_=>0) F ?_
   exact au () trivial
  ·exact au () trivial
 rintro _ _;have hp:=aR u;obtain⟨z,V⟩:∃z:Nat,z=b.1.toNat*((row u).length-1):=⟨_,rfl⟩
 have Z:z<=4096*4096:=by
  rw[V];exact Nat.mul_le_mul Uo Uo
 have h:b.1*((((row u).map ndP).length:Int)-1)=z:=by
  rw[R,V,Int.natCast_mul]
  congr 1<;>omega
 have H:gN x u v=decide (4096<(((row x).map ndP).length:Int)+b.1*((((row u).map ndP).length:Int)-1)):=by
  unfold gN oP;rw[r,R,W]
 rw[H];refine aj<|vi ?_;refine vi ?_ (by show _<=b.1*((((row u).map ndP).length:Int)-1);rw[h];omega) (by show b.1*((((row u).map ndP).length:Int)-1)<=_;rw[h];omega);refine vi ?_ (by show _<=(((row x).map ndP).length:Int)+b.1*((((row u).map ndP).length:Int)-1);rw[h];omega) (by show (((row x).map ndP).length:Int)+b.1*((((row u).map ndP).length:Int)-1)<=_;rw[h];omega);refine ae (λg=>?_) (λg=>?_)
 ·exact⟨_,_,rfl,rfl,(KX (KU g)).symm⟩
 have I:=zx (λ_:Unit=>[(3,[.p (pI v)]),(39,[.p (ah (row u))])]) 175 ⟨_,_,0,0,0,0,λ_=>pI v,λ_=>ah (row u),λ_=>.unk,λ_=>.unk,.inl rfl⟩ zW (iA (fG u v)) 90000000 6 4096 UO UO (Ly C i j O) (λs l n d s' l' e=>xC UO (λd n y e=>KQ (IL C i e) j) s l n d s' l' e) false x w Uo () [] (λ_=>rfl) (by simp[zW];omega);rw[GM' x .tm 0 0 () [] w.1,pJ w v]at I;exact aZ (λk=>sw 100 5 (sw 101 4 (sw 10 12 k))) (λ_=>0) I<|⟨_,_,rfl,rfl,(KY (by simpa using g)).symm⟩
end Go.Q
namespace Go.Wx
theorem sD{P:Program}{τ:Tau}(d:aU P τ){T e sz bs:Nat}(j:look τ.slcs T=some (e,sz,bs)){x y:Operand}{l:List (List PV)}(q:0<l.length){k:PV ->Prop}(r:k (.bool false)):nM P .eql T x y (.c (.p (.sl l))) (.c (.p (.raw (.slice none 0 0)))) k:=⟨⟨.bool false,λC ρ va s w h i=>by
 have h:RV C (.sl l) va:=h;have i:RV C (.raw (.slice none 0 0)) s:=i;cases i;obtain⟨v,_⟩:=d.slcs T e sz bs j;cases h with
 |nil a c=>simp at q
 |sl l sz b o c f=>
  refine⟨.bool false,.bool _,?_⟩;rw[eqGuard_at_slice];simp only[Sem.run_bind,Sem.run_pure,Result.andThen_ok];exact Lib.run_eql_slice_nil w T e _ _ c 0 0 v,r⟩⟩
theorem VO.vc{P:Program}{f:FuncId}{r:List PV}{e sz:Nat}{l:List (List PV)}(h:VO P f r e sz l):VC P f r (.sl l):=⟨h.1,λw X C ρ z D E=>(h.2 w X C ρ z D E).mono λe O ⟨v,R,d,F,i⟩=>by
 obtain⟨s,H,k⟩:=i.slot 0 _ rfl (nK rfl);have k:s=d 0:=k;obtain rfl:v=s:=JB H;obtain⟨I,o,_,j⟩:=i.frz [0] λ_ _=>rfl;obtain⟨K,q,L⟩:=Rep.le ⟨I,d,o.reslot (b:=.c (.p (.sl l))) (v:=v) λ_=>k▸j 0 Ud l (.inl ⟨_,_,rfl⟩)⟩ (iG (f:=id) (B:=⟨[(0,.c (.p (.sl l)))],[]⟩) ⟨rfl,VQ⟩ VQ rfl);exact⟨v,K,q,F,L⟩⟩
end Go.Wx
namespace Go.Q
def iP(x:Int):List PV:=[.int .i64 x]
def rP(t:List Nd):List PV:=[ah t]
theorem aA{l:List (List Nd)}{i:Int}{k:Nat ->List PV ->Prop}(j:Nat){x:(List Nd)}(b:l[j]?=some x)(d:k j (rP x))(hi:i=(j:Int):=by first|rfl|omega):kD (l.map rP) 1 i k:=vm j b d hi
theorem aM{l:List Nd}{i:Int}{k:Nat ->List PV ->Prop}(j:Nat){x:Nd}(b:l[j]?=some x)(d:k j (ndP x))(hi:i=(j:Int):=by first|rfl|omega):kD (l.map ndP) 3 i k:=vm j b d hi
theorem cS{l:List cf}{i:Int}{k:Nat ->List PV ->Prop}(j:Nat){x:cf}(b:l[j]?=some x)(d:k j (bI x))(hi:i=(j:Int):=by first|rfl|omega):kD (l.map bI) 7 i k:=vm j b d hi
theorem ee{l:List dy}{i:Int}{k:Nat ->List PV ->Prop}(j:Nat){x:dy}(b:l[j]?=some x)(d:k j (bA x))(hi:i=(j:Int):=by first|rfl|omega):kD (l.map bA) 2 i k:=vm j b d hi
theorem jx(l:List (List Nd)):∀x∈l,(rP x).length=1/\∀q∈rP x,q.one=true:=λx _=>⟨rfl,λq b=>by
 obtain rfl:q=ah x:=by simpa[rP]using b
 rfl⟩
theorem ef{α:Type}{p:α ->List PV}{l:List α}{i:Nat}{k:List PV ->Prop}{x:α}(b:l[i]?=some x)(d:k (p x)):pR (l.map p) i k:=yf (p x) (by rw[JX,b];rfl) d
theorem sE{t a q:List Nd}{y:Tr}(hl:t.length<=1000000000)(e:t=a++(row y++q))(b:Ok .tm y):VC prog 34 [ah t,pI (a.length:Int)] (pI ((a.length+(row y).length:Nat):Int)):=by
 have d:a.length<=t.length:=by rw[e];simp
 have h:=EQ t hl t.length a.length Uo Uo λ_=>Uo
 rwa [rj,e,IC b a q,<- e]at h
theorem sF{l:List Nd}(b:0<l.length)(hl:l.length<=1000000):VO prog 67 [ah l] 47 3 (l.map ndP):=by
 refine o6 8 [.tmp 2] τok func67 ?_;refine aj<|sD (l:=l.map ndP) τok (by rfl) (by rw[KF];exact b)<|va ?_ (gX l);exact⟨7,rfl,rfl⟩
def pM(r s:Nat)(t:List Nd)(p:Nat)(ys:List (List Nd))(bs:List Int):List (Nat×SE):=[(r,.rw 39 1 (ys.map rP)),(s,.rw 3 1 (bs.map iP)),(1,.st 1 39 [.p (ah t)]),(2,.st 2 3 [.p (pI p)]),(3,.st 3 40 [.row r]),(4,.st 4 124 [.row s])]
theorem zz{t:List Nd}{y:Tr}{d:List Nd}{p:Nat}{ys:List (List Nd)}{bs:List Int}{b:Int}(hl:t.length<=1000000)(e:t.drop p=row y++d)(r:Ok .tm y)(h1:ys.length<=1000000)(h2:bs.length<=1000000):VG prog 191 [.c (.p (pI b)),.c (.ptr 1 0),.c (.ptr 2 0),.c (.ptr 3 0),.c (.ptr 4 0)] (pM 0 5 t p ys bs) (.ok (.c (.p (.tup [])),pM 10 15 t (p+(row y).length) (ys++[row y]) (bs++[b]))):=by
 have v:=aR y;have i:p<=t.length:=by
  rcases Nat.lt_or_ge t.length p with h|h
  ·have:=KG List.length e
   rw[JY Uo]at this;simp at this;omega
  ·exact h
 have o:=sE (t:=t) (a:=t.take p) (q:=d) (y:=y) Uo (by rw[<- e,List.take_append_drop]) r;rw[VJ,Nat.min_eq_left i]at o;have j:=KG List.length e;rw[VK,JK]at j;have w:=aq ndP t;refine cQ 22 [] τok func191 ?_;refine aj<|af o ?_;refine bO p (p+(row y).length) ?_ (λx s=>by obtain⟨y,_,rfl⟩:=List.mem_map.1 s;rfl) rfl;rw[<- List.map_take,<- List.map_drop,List.drop_take,e,Nat.add_sub_cancel_left,List.take_left];refine bg ?_ (hb:=Uk);refine vk ?_;refine bg ?_ (hb:=Uk);exact .inl ⟨_,_,_,λk=>sw 10 16 (sw 15 20 k),rfl,rfl,rfl,rfl,⟨KG (λl=>some (SE.rw _ _ l)) (by rw[KB];rfl),KG (λl=>some (SE.rw _ _ l)) (by rw[KB];rfl),rfl,rfl,rfl,rfl,trivial⟩,rfl⟩
def bsK:List Tr ->Nd ->Int ->List Int
 |[],_,_=>[]
 |_::r,n,i=>(if n.op=12 then [0,n.b]else [bi n i])++bsK r n (i+1)
def zA(x:Tr):List Int:=bsK (if x.n.op=2 then []else x.ks) x.n 0
def hP(a b c d:Nat):Nat ->Nat
 |0=>a
 |5=>b
 |2=>7
 |3=>5
 |4=>6
 |10=>c
 |15=>d
 |k=>k
theorem LA{x:Tr}(hx:Ok .tm x)(T:(row x).length<=4096):VG prog 163 [.c (.p (ah (row x)))] [] (.ok (.tp [.row 10,.row 15],[(10,.rw 39 1 (((kidsT x).map row).map rP)),(15,.rw 3 1 ((zA x).map iP))])):=by
 obtain⟨n,ks⟩:=x;obtain⟨hp,h3,b2⟩:=hx.tm;obtain⟨hc,C,j⟩:=hx.kids;have V:=dn hp;obtain⟨t,ht⟩:∃t,row (.mk n ks)=t:=⟨_,rfl⟩
 rw[ht]at T ⊢;have W:t=n::rows ks:=by rw[<- ht,row]
 have hn:t[0]?=some n:=by rw[W];rfl
 obtain⟨o,e⟩:∃o,o=(if n.op=2 then []else ks):=⟨_,rfl⟩
 obtain⟨F,hF⟩:∃F:List Tr ->List Tr,F=λl=>if n.op=12 then l.flatMap (·.ks)else l:=⟨_,rfl⟩
 obtain⟨KT,X⟩:∃KT,kidsT (.mk n ks)=KT:=⟨_,rfl⟩
 obtain⟨BT,Y⟩:∃BT,zA (.mk n ks)=BT:=⟨_,rfl⟩
 rw[X,Y];have Z:F o=KT:=by
  rw[<- X,hF,e];simp only[kidsT]
  by_cases D:n.op=2
  ·simp[D]
  ·simp[D]
 have a0:bsK o n 0=BT:=by rw[<- Y,zA,e];rfl
 have a1:∃v,t.drop 1=rows o++v:=by
  rw[W,e];split
  ·exact⟨_,rfl⟩
  ·exact⟨[],Ud⟩
 obtain⟨v,a5⟩:=a1;have w:bw n=(o.length:Int)/\bH cnt nx o n .tm 0/\eV' o=true:=by
  obtain⟨_,_,_,a6⟩:=eS hc;have b3:=nA hp
  by_cases D:n.op=2
  ·rw[KX D]at e
   subst e;exact⟨by simp[bw,D],trivial,rfl⟩
  ·rw[KY D]at e a6
   subst e;exact⟨Uo,C,j⟩
 have b1:=(nA hp).2;have a2:n.op=2 ->o=[]:=λh=>by rw[e,KX h]
 refine cQ 38 [.tmp 2,.tmp 3] τok func163 ?_;refine aD<|aD<|aM 0 hn ?_;refine aD<|aD<|kJ 5 0 100 39 1 rfl rfl rfl UO<|kJ 6 0 105 3 1 rfl rfl rfl UO<|aj<|af (zq n ⟨V.1,V.2.1⟩) ?_;rw[w.1];refine aB τok (σ:=Nat×Nat×List Tr×List Int×List Tr) [(4,_),(5,_),(6,_),(7,_),(8,_),(15,_)] [(1,_),(4,_)] (λq=>[(16,vI q.1)]) (λq=>[(7,.st 0 3 [.p (pI q.2.1)]),(100,.rw 39 1 ((q.2.2.1.map row).map rP)),(105,.rw 3 1 (q.2.2.2.1.map iP)),(5,.st 0 40 [.row 100]),(6,.st 0 124 [.row 105])]) (λq=>q.1+q.2.2.2.2.length=o.length/\q.2.2.1++F q.2.2.2.2=KT/\q.2.2.2.1++bsK q.2.2.2.2 n q.1=BT/\t.drop q.2.1=rows q.2.2.2.2++v/\bH cnt nx q.2.2.2.2 n .tm 0/\eV' q.2.2.2.2=true/\q.2.2.1.length<=2*q.1/\q.2.2.2.1.length<=2*q.1) (λq=>o.length-q.1) (0,1,[],[],o) ⟨Ud,Z,a0,a5,w.2.1,w.2.2,KJ _,KJ _⟩ ?_;rintro⟨i,p,ys,bs,E⟩ ⟨O,hy,H,K,C,j,a7,a8⟩;simp only at O hy H K C j a7 a8;refine aj<|ae (λg=>?_) (λg=>?_);rotate_left
 ·have g:¬ (i:Int)<o.length:=g
  obtain rfl:E=[]:=List.length_eq_zero_iff.1 Uo;rw[show F []=[] by rw[hF];simp,JD]at hy;rw[bsK,JD]at H;subst hy H;refine vk ?_;exact .inr ⟨_,λk=>sw 10 100 (sw 15 105 k),rfl,rfl,⟨rfl,rfl,trivial⟩,rfl⟩
 have g:(i:Int)<o.length:=g
 match E,O with
 |[],O=>simp at O;omega
 |y::r,O=>
 obtain⟨s,I,z⟩:=kt C j;simp only[rows,List.append_assoc]at K;simp only[JV]at O;simp only[bsK]at H;refine ae (λd=>?_) (λd=>?_)
 ·have d:n.op=12:=d
  have s:Ok .fn y:=by rwa [show nx Md.tm n 0= .fn by simp[nx,d]]at s
  obtain⟨f,L,R,rfl,f13,b4,a9,a'⟩:=s.fn;rw[show row (.mk f [L,R])=f::(row L++row R) by simp[row,rows]]at K;simp only[List.cons_append,List.append_assoc]at K;obtain⟨_,_,a3⟩:=CM K;have a4:t.drop (p+1+(row L).length)=row R++(rows r++v):=by rw[<- List.drop_drop,a3,List.drop_left]
  have b0:t.drop (p+1+(row L).length+(row R).length)=rows r++v:=by rw[<- List.drop_drop,a4,List.drop_left]
  rw[KX d]at H;refine vi ?_;refine aZ (hP 100 105 110 115) (λ_=>0) (zz (ys:=ys.map row) (bs:=bs) (b:=0) Uo a3 a9 Uk Uo) ?_;refine aZ (hP 110 115 120 125) (λ_=>0) (zz (ys:=ys.map row++[row L]) (bs:=bs++[0]) (b:=n.b) Uo a4 a' Uk Uk) ?_;refine vi ?_;exact au (i+1,p+1+(row L).length+(row R).length,ys++[L,R],bs++[0,n.b],r) ⟨Us,by simp only;rw[<- hy,hF];simp[d,Tr.ks],by simp only;rw[<- H];simp,b0,I,z,Uk,Uk⟩ (f:=λk=>sw 100 120 (sw 105 125 k)) (y':=⟨rfl,KG (λl=>some (SE.rw _ _ l)) Ud,KG (λl=>some (SE.rw _ _ l)) Ud,rfl,rfl,trivial⟩)
 ·have d:¬ n.op=12:=d
  have D:¬ n.op=2:=λh=>by
   rw[a2 h]at g;simp at g;omega
  have s:Ok .tm y:=by rwa [show nx Md.tm n 0= .tm by simp[nx,D,d]]at s
  rw[KY d]at H;refine af (EL n i) ?_;refine aZ (hP 100 105 110 115) (λ_=>0) (zz (ys:=ys.map row) (bs:=bs) (b:=bi n i) Uo K s Uk Uo) ?_;refine vi ?_;exact au (i+1,p+(row y).length,ys++[y],bs++[bi n i],r) ⟨Us,by simp only;rw[<- hy,hF];simp[d,Tr.ks],by simp only;rw[<- H];simp,by rw[<- List.drop_drop,K,List.drop_left],I,z,Uk,Uk⟩ (f:=λk=>sw 100 110 (sw 105 115 k)) (y':=⟨rfl,KG (λl=>some (SE.rw _ _ l)) Ud,KG (λl=>some (SE.rw _ _ l)) Ud,rfl,rfl,trivial⟩)
theorem LB{α:Type}{l:List α}{i:Nat}{x:α}(h:l[i]?=some x):l.set i x=l:=by
 refine List.ext_getElem? λj=>?_;rw[List.getElem?_set]
 by_cases e:i=j
 ·subst e
  rw[KX rfl,KX (aL h),h]
 ·rw[KY e]
theorem EU{x:Tr}(j:Ok .tm x)(b:(row x).length<=4096):VO prog 130 [ah (row x)] 39 1 (((kidsT x).map row).map rP):=by
 have s:=kN (row x) Uo;rw[kx j b]at s;have o:=gO j;obtain⟨L,q⟩:∃L,L=(kidsT x).map row:=⟨_,rfl⟩
 have h:=LA j b;rw[<- q]at h ⊢;have C:=aq rP L;have v:L.length<=18:=by rw[q,KF];exact o
 refine o6 29 [.tmp 2] τok func130 ?_;refine aj<|af s ?_;refine vn ?_ UO;refine aZ (λk=>k+100) (λ_=>0) h ?_;refine aB τok (σ:=Nat) [(3,_),(15,_)] [(110,_)] (λi=>[(16,vI i)]) (λ_=>[]) (λi=>i<=L.length) (λi=>L.length-i) 0 (KV _) ?_;intro i D;refine aj<|ae (λg=>?_) (λg=>?_);rotate_left
 ·exact⟨110,rfl,rfl⟩
 have g:(i:Int)<((L.map rP).length:Int):=g;obtain⟨y,e,_⟩:=az (l:=L) (k:=i);refine aA i e ?_;refine ef e ?_;have r:0<y.length/\y.length<=4096:=by
  have:=JQ e;rw[q]at this;obtain⟨z,w,rfl⟩:=List.mem_map.1 this;have:=aR z;have:=ig' x z w;omega
 refine af (sF r.1 Uo).vc ?_;refine aA i e ?_;refine ef e<|vi ?_;exact au (i+1) (show i+1<=_ by omega) (d:=⟨⟨KG (λl=>some (SE.rw _ _ l)) (LB (by rw[JX,e];rfl)),rfl,rfl⟩,trivial⟩)
theorem EV{α:Type}{R:Rd α}{f:FuncId}{e n:Nat}(j:dO prog f)(h:∀w,dO prog f/\Calls prog f #[.slice none 0 0,.int .i64 (n:Int)] w (λs w'=>∃v,s= .returned v/\Own R e w.heap.size w' v []/\Kp [] w w')):VO prog f [.raw (.slice none 0 0),pI n] e R.sz []:=.of ⟨j,λw C O q D=>by
 obtain⟨v,z,rfl,E,F⟩:=zk D;cases E;cases F;refine(h w).2.mono λe w' ⟨v,H,r,k⟩=>?_;obtain⟨d,q1,I⟩:=r.row;refine⟨v,C,d,H,q1,λx l=>(by cases l),by cases d<;>first|rfl|exact I.elim,λi T x _ l=>by simp at l,⟨q.tr k,λ_ _ _ h=>h,λb o v h=>.inl ⟨o,v,h⟩,k⟩,λg K b o u L=>?_⟩;have:=r.block g (by rw[<- nJ q1];exact K);have:=(q b o u L).lt;omega⟩
theorem LC(n:Nat)(b:0<n)(d:n<=1000000):VO prog 214 [.raw (.slice none 0 0),pI n] 47 3 []:=EV ⟨_,func214,rfl,UO⟩ (IP n b d)
theorem vq{α:Type}{L:List (List α)}{k:Nat}{x:List α}(b:L[k]?=some x):((L.take (k+1)).flatten).length=((L.take k).flatten).length+x.length:=by
 rw[QQ,b];simp
theorem nV{α:Type}(L:List (List α))(k:Nat):((L.take k).flatten).length<=L.flatten.length:=by
 have:L.flatten=(L.take k).flatten++(L.drop k).flatten:=by rw[<- List.flatten_append,List.take_append_drop]
 rw[this,JK];omega
theorem EW{L:List (List Nd)}(hl:L.length<=1000000)(e:0<L.flatten.length)(h1:L.flatten.length<=1000000):VO prog 190 [.sl (L.map rP)] 47 3 (L.flatten.map ndP):=by
 have q:=aq rP L;refine o6 36 [.tmp 2] τok func190 ?_;refine aj<|aB τok (σ:=Nat) [(0,_),(9,_),(10,_)] [] (λi=>[(11,vI i),(3,vI ((L.take i).flatten.length:Nat))]) (λ_=>[]) (λi=>i<=L.length) (λi=>L.length-i) 0 (KV _) ?_;intro i h;have j:=nV L i;refine aj<|ae (λg=>?_) (λg=>?_)
 ·have g:(i:Int)<((L.map rP).length:Int):=g
  obtain⟨x,b,_⟩:=az (l:=L) (k:=i);have o:=vq b;have d:=nV L (i+1);have r:=aq ndP x;refine aA i b ?_;refine vi ?_;refine vn ?_;refine vi ?_;exact au (i+1) (show i+1<=_ by omega) (x:=⟨rfl,KG (λz=>some (vI z)) (by show ((L.take i).flatten.length:Int)+(x.map ndP).length=_;omega),trivial⟩)
 have g:¬ (i:Int)<((L.map rP).length:Int):=g;obtain rfl:i=L.length:=Uo
 rw[List.take_length];refine aZ (λ_=>100) (λ_=>0) (LC L.flatten.length e h1) ?_;refine aB τok (σ:=Nat) [(25,_),(26,_)] [] (λi=>[(27,vI i),(6,.c (.row 100))]) (λi=>[(100,.rw 47 3 ((L.take i).flatten.map ndP))]) (λi=>i<=L.length) (λi=>L.length-i) 0 (KV _) ?_;intro i h;have j:=nV L i;refine aj<|ae (λg=>?_) (λg=>?_)
 ·have g:(i:Int)<((L.map rP).length:Int):=g
  obtain⟨x,b,_⟩:=az (l:=L) (k:=i);have o:=vq b;have d:=nV L (i+1);refine aA i b ?_;refine va ?_ (gX x) (hb:=by rw[KF];omega);refine vi ?_;exact au (i+1) (show i+1<=_ by omega) (f:=λk=>sw 100 33 k) (y':=⟨KG (λl=>some (SE.rw _ _ l)) (by show _++_=((L.take (i+1)).flatten).map ndP;rw[QQ,b];simp),trivial⟩)
 have g:¬ (i:Int)<((L.map rP).length:Int):=g;obtain rfl:i=L.length:=Uo
 rw[List.take_length];exact⟨100,rfl,rfl⟩
theorem LD{x:Tr}{ys:List Tr}(w:Ok .tm x)(d:(row x).length<=4096)(o:∀y∈ys,Ok .tm y/\(row y).length<=4096)(I:ys.length<=100000):VC prog 161 [ah (row x),bG (ys.map row)] (if 4096<(row (ak' x ys)).length then .tup [.sl [],pI 9]else .tup [ah (row (ak' x ys)),pI 0]):=by
 have v:=kN (row x) Uo;rw[kx w d]at v;have K:=aq ndP (row x);have O:=aq rP (ys.map row);have C:(row (ak' x ys)).length=ys.length+((row x).length+(rows ys).length):=by rw[bO'];simp
 have e:∀i,(rows (ys.take i)).length<=(rows ys).length:=λi=>by
  have:rows ys=rows (ys.take i)++rows (ys.drop i):=by rw[<- de',List.take_append_drop]
  rw[this,JK];omega
 refine vf 57 [.tmp 4,.tmp 5] τok func161 ?_;refine af v ?_;refine vn ?_ UO;refine aB τok (σ:=Nat) [(0,_),(1,_),(19,_),(20,_)] [] (λi=>[(21,vI i),(7,vI (min (((row x).length+i+(rows (ys.take i)).length:Nat):Int) 4097))]) (λ_=>[]) (λi=>i<=ys.length) (λi=>ys.length-i) 0 (KV _) ?_ (x1:=⟨rfl,KG (λz=>some (vI z)) (by show (((row x).map ndP).length:Int)=_;simp[rows];omega),trivial⟩);intro i D;have R:=e i;refine aj<|ae (λg=>?_) (λg=>?_)
 ·have g:(i:Int)<(((ys.map row).map rP).length:Int):=g
  have E:(ys.map row).length=ys.length:=KF _;obtain⟨y,q,_⟩:=az (l:=ys) (k:=i);obtain⟨r,s⟩:=o y (JQ q);have h:=kN (row y) Uo;rw[kx r s]at h;have T:(rows (ys.take (i+1))).length=(rows (ys.take i)).length+(row y).length:=by rw[QQ,q,de'];simp[rows]
  have F:=aq ndP (row y);refine aA i (by rw[JX,q];rfl) ?_;refine af h ?_;refine vn ?_ UO;refine vi ?_;refine vi ?_;refine vi ?_;exact au (i+1) (show i+1<=_ by omega) (x:=⟨rfl,KG (λz=>some (vI z)) (by show min (min (((row x).length+i+(rows (ys.take i)).length:Nat):Int) 4097+1+(((row y).map ndP).length:Int)) 4097=min (((row x).length+(i+1)+(rows (ys.take (i+1))).length:Nat):Int) 4097;omega),trivial⟩)
 have g:¬ (i:Int)<(((ys.map row).map rP).length:Int):=g;have E:(ys.map row).length=ys.length:=KF _;obtain rfl:i=ys.length:=Uo
 rw[List.take_length]at *
 refine ae (λj=>?_) (λj=>?_)
 ·have j:min (((row x).length+ys.length+(rows ys).length:Nat):Int) 4097>4096:=j
  exact aF (h3:=by rw[KX Uo];rfl)
 have j:¬ min (((row x).length+ys.length+(rows ys).length:Nat):Int) 4097>4096:=j;rw[KY Uo,bO'];obtain⟨N,H⟩:∃N:Nat,min (((row x).length+ys.length+(rows ys).length:Nat):Int) 4097=N:=⟨(row x).length+ys.length+(rows ys).length,Uo⟩
 refine DZ 0 N ?_ rfl H;refine aB τok (σ:=Nat) [(0,_),(1,_),(41,_),(42,_)] [] (λi=>[(43,vI i),(11,.c (.row 100))]) (λi=>[(100,.rw 47 3 ((List.replicate i appN).map ndP))]) (λi=>i<=ys.length) (λi=>ys.length-i) 0 (KV _) ?_ (f:=λk=>sw 100 40 k);intro i D;refine aj<|ae (λg=>?_) (λg=>?_)
 ·have g:(i:Int)<(((ys.map row).map rP).length:Int):=g
  refine bg ?_ (hb:=Uk);refine vi ?_;exact au (i+1) (show i+1<=_ by omega) (f:=λk=>sw 100 48 k) (y':=⟨KG (λl=>some (SE.rw _ _ l)) (by rw[List.replicate_succ',KB];rfl),trivial⟩)
 have g:¬ (i:Int)<(((ys.map row).map rP).length:Int):=g;obtain rfl:i=ys.length:=Uo
 have b:(row x::ys.map row).flatten=row x++rows ys:=by rw[List.flatten_cons,fk']
 have V:=aR x;refine va (p:=rP) ?_ (jx _);refine af (EW (L:=row x::ys.map row) Uk (by rw[b,JK];omega) (by rw[b,JK];omega)).vc ?_;rw[b];refine va ?_ (gX _) (hb:=Uk);exact⟨_,_,rfl,rfl,KG (λl=>PV.tup [.sl l,pI 0]) Ud⟩
theorem LF{op:Int}(T:op=4 \/op=5){x:Tr}{ys:List Tr}(V:Ok .tm x)(o:(row x).length<=4096)(v:∀y∈ys,Ok .tm y/\(row y).length<=4096)(Y:ys.length<=100000):VC prog 134 [pI op,bG (ys.map row),ah (row x)] (if 4096<(row (eU op ys x)).length then .tup [.sl [],pI 9]else .tup [ah (row (eU op ys x)),pI 0]):=by
 have I:=kN (row x) Uo;rw[kx V o]at I;have Z:=aq ndP (row x);have eY:=aq rP (ys.map row);have eM:(ys.map row).length=ys.length:=KF _;rw[uk];obtain⟨R,r⟩:∃R,R=dS op:=⟨_,rfl⟩
 have w:R []=[]:=by rw[r];rfl
 obtain⟨m,K⟩:∃m:Nd,m=⟨op,0,0⟩:=⟨_,rfl⟩
 have z:∀l d,R (l++[d])=R l++(m::row d):=λl d=>by rw[r,K];exact IR op l d
 have C:∀i,(R (ys.take i)).length<=(R ys).length:=λi=>by rw[r];exact preB_take op ys i
 rw[<- r]
 clear r
 refine cN 68 [.tmp 6,.tmp 7] τok func134 ?_;rcases T with rfl|rfl
 all_goals
  refine aD<|aD ?_
  first
   |refine vn ?_ UO
   |refine vy ?_ UO
    refine vn ?_ UO
  refine aD<|dK 8 100 47 3 rfl rfl<|aD<|VCode.seq<|aD<|VCode.blk<|aB τok (σ:=Nat×Bool×List Nd) [(0,_),(1,_),(2,_),(20,_),(21,_)] [] (λq=>[(22,vI q.1),(9,.c (.p (.bool q.2.1))),(8,.c (.row 100))]) (λq=>[(100,.rw 47 3 (q.2.2.map ndP))]) (λq=>q.1<=ys.length/\q.2.2.length<=4096/\(q.2.1=true ->4096<(R ys).length)/\(q.2.1=false ->q.2.2=R (ys.take q.1))) (λq=>ys.length-q.1) (0,false,[]) ⟨KV _,Ud,(λh=>by cases h),λ_=>w.symm⟩ ?_;rintro⟨i,L,l⟩ ⟨W,D,j,e⟩;simp only at W D j e;have el:=aq ndP l;refine aj<|ae (λg=>?_) (λg=>?_)
  ·have g:(i:Int)<(((ys.map row).map rP).length:Int):=g
   obtain⟨y,E,_⟩:=az (l:=ys) (k:=i);obtain⟨F,H⟩:=v y (JQ E);have s:=kN (row y) Uo;rw[kx F H]at s;have ey:=aq ndP (row y);refine aA i (by rw[JX,E];rfl) ?_;refine af s ?_;refine vn ?_ UO;cases L with
   |true=>
    refine vi ?_;exact au (i+1,true,l) ⟨by show i+1<=_;omega,D,j,λh=>by cases h⟩
   |false=>
    obtain rfl:=e rfl;have O:R (ys.take (i+1))=R (ys.take i)++(m::row y):=by rw[QQ,E];exact z _ y
    have X:=C (i+1);rw[O,JK,JV]at X;refine vi ?_;refine vi ?_;refine ae (λb=>?_) (λb=>?_)
    ·have b:(((R (ys.take i)).map ndP).length:Int)+1+((row y).map ndP).length>4096:=b
     refine vi ?_;exact au (i+1,true,R (ys.take i)) ⟨by show i+1<=_;omega,D,λ_=>Uo,λh=>by cases h⟩
    ·have b:¬ (((R (ys.take i)).map ndP).length:Int)+1+((row y).map ndP).length>4096:=b
     refine bg ?_ (hb:=Uk);refine va ?_ (gX _) (hb:=by simp[dp];omega);refine vi ?_;exact au (i+1,false,R (ys.take i)++(m::row y)) ⟨by show i+1<=_;omega,Uk,λh=>(by cases h),λ_=>O.symm⟩ (f:=λk=>sw 100 49 k) (y':=⟨KG (λl=>some (SE.rw _ _ l)) (by rw[K,KB,List.map_cons,List.append_assoc];rfl),trivial⟩)
  have g:¬ (i:Int)<(((ys.map row).map rP).length:Int):=g;obtain rfl:i=ys.length:=Uo
  rw[List.take_length]at e;refine aj<|af I ?_;refine vn ?_ UO;cases L with
  |true=>
   exact aF (h3:=by rw[KX (by rw[JK];have:=j rfl;omega)];rfl)
  |false=>
   obtain rfl:=e rfl;refine vi ?_;refine ae (λb=>?_) (λb=>?_)
   ·have b:(((R ys).map ndP).length:Int)+((row x).map ndP).length>4096:=b
    exact aF (h3:=by rw[KX (by rw[JK];omega)];rfl)
   ·have b:¬ (((R ys).map ndP).length:Int)+((row x).map ndP).length>4096:=b
    rw[KY (by rw[JK];omega)];refine va ?_ (gX _) (hb:=Uk);exact⟨_,_,rfl,rfl,KG (λl=>PV.tup [.sl l,pI 0]) Ud⟩
theorem LG{α:Type}{os:List α}{i j:Nat}{x y:α}(k:Nat)(e:i<j)(h:j<os.length)(l:os[i]?=some x)(o:os[j]?=some y):((os.set i y).set j x)[k]?=if k=i then some y else if k=j then some x else os[k]?:=by
 by_cases b:k=j
 ·subst b
  rw[List.getElem?_set_self (by simpa using h),KY Uo,KX rfl]
 ·rw[List.getElem?_set_ne Uo]
  by_cases d:k=i
  ·subst d
   rw[List.getElem?_set_self Uo,KX rfl]
  ·rw[List.getElem?_set_ne Uo,KY d,KY b]
abbrev Sl3:=Option Addr×Nat×Nat
def gy(q:Sl3):List PV:=[.raw (sV q)]
theorem revP:uU prog 68 39:=by
 refine KL 28 τok func68 λu b R=>?_;have T:=aq gy b;refine aj<|vi (r:=(b.map gy).length-1) ?_;refine aB τok (σ:=Nat×List Sl3) [(0,.c (.rv u 0))] [] (λq=>[(2,vI q.1),(3,vI ((b.length:Int)-1-q.1))]) (λq=>[(0,.rw 39 1 (q.2.map gy))]) (λq=>q.1<=b.length/\q.2.length=b.length/\∀k,k<b.length ->q.2[k]?=if k<q.1 \/b.length<=k+q.1 then b[b.length-1-k]? else b[k]?) (λq=>b.length-q.1) (0,b) ⟨KV _,rfl,λk C=>by rw[KY Us]⟩ ?_ (x1:=⟨rfl,KG (λz=>some (vI z)) (by show ((b.map gy).length:Int)-1=(b.length:Int)-1-(0:Nat);omega),trivial⟩);rintro⟨i,d⟩ ⟨K,s,h⟩;simp only at K s h;refine aj<|ae (λg=>?_) (λg=>?_)
 ·have g:(i:Int)<(b.length:Int)-1-i:=g
  obtain⟨j,L⟩:∃j:Nat,(b.length:Int)-1-i=j:=⟨((b.length:Int)-1-i).toNat,Uo⟩
  obtain⟨x,o,_⟩:=az (l:=d) (k:=i);obtain⟨y,v,_⟩:=az (l:=d) (k:=j);refine vm (p:=gy) j v ?_;refine ef v<|vm (p:=gy) i o ?_;refine ef o<|vm (p:=gy) i o ?_;refine ef o ?_;have O:(d.map gy).set i (gy y)=(d.set i y).map gy:=by rw[List.map_set]
  have w:((d.map gy).set i (gy y))[j]?=some (gy y):=by rw[List.getElem?_set_ne Uo,JX,v];rfl
  refine oR j (gy y) L w rfl<|yf (gy y) w<|vk ?_;refine vi ?_;refine vi ?_;refine au (i+1,(d.set i y).set j x) ⟨by show i+1<=_;omega,by simp[s],λk C=>?_⟩ (x:=⟨rfl,KG (λz=>some (vI z)) (by show (b.length:Int)-1-i-1=(b.length:Int)-1-((i+1:Nat):Int);omega),trivial⟩) (y':=⟨KG (λl=>some (SE.rw _ _ l)) (by show ((d.map gy).set i (gy y)).set j (gy x)=_;rw[O];exact(List.map_set ..).symm),trivial⟩);show ((d.set i y).set j x)[k]?=if k<i+1 \/b.length<=k+(i+1)then b[b.length-1-k]? else b[k]?
  rw[LG k Uo Uo o v];have D:=h i Uo;have E:=h j Uo;rw[KY Uo,o]at D;rw[KY Uo,v]at E
  by_cases F:k=i
  ·subst F
   rw[KX rfl,KX Uo,show b.length-1-k=j by omega];exact E
  ·rw[KY F]
   by_cases H:k=j
   ·subst H
    rw[KX rfl,KX Uo,show b.length-1-k=i by omega];exact D
   ·rw[KY H,h k C]
    by_cases I:k<i \/b.length<=k+i
    ·rw[KX I,KX Uo]
    ·rw[KY I,KY Uo]
 ·have g:¬ (i:Int)<(b.length:Int)-1-i:=g
  have e:d=b.reverse:=by
   refine List.ext_getElem? λk=>?_
   by_cases C:k<b.length
   ·rw[h k C,List.getElem?_reverse Uo]
    split
    ·rfl
    ·rw[show b.length-1-k=k by omega]
   ·rw[QF Uo,QF Uk]
  subst e;exact⟨rfl,rfl,rfl⟩
theorem vu{t a q:List Nd}{y:Tr}(e:t=a++(row y++q)){p n:Nat}(b:p=a.length)(d:n=a.length+(row y).length):PV.sl (((t.map ndP).take n).drop p)=ah (row y):=by
 subst b d;rw[e,<- List.map_take,<- List.map_drop,<- List.append_assoc,<- JK,List.take_left' rfl,List.drop_left' rfl]
 rfl
theorem cT(l:List Nd):∀z∈l.map ndP,z.length=3:=λz b=>by
 obtain⟨y,_,rfl⟩:=List.mem_map.1 b
 rfl
theorem EX(l:List (List Nd)):∀x∈l.map rP,∃t,x=[.sl t]:=λx b=>by
 obtain⟨y,_,rfl⟩:=List.mem_map.1 b;exact⟨_,rfl⟩
theorem EY{x:Tr}{ys:List Tr}(h:[]++ys.reverse=argsT x):((ys.map row).map rP).reverse=((argsT x).map row).map rP:=by
 rw[<- h,List.nil_append,<- List.map_reverse,<- List.map_reverse]
theorem EZ{n:Nd}{f u:Tr}(b:Ok .tm (.mk n [f,u])):row (.mk n [f,u])=[n]++(row f++row u)/\row (.mk n [f,u])=(n::row f)++(row u++[]):=⟨by simp[row,rows],by simp[row,rows]⟩
theorem E0{x:Tr}(o:Ok .tm x)(i:(row x).length<=4096):VC prog 35 [ah (row x)] (.tup [ah (row (headT x)),bG ((argsT x).map row)]):=by
 have v:=kN (row x) Uo;rw[kx o i]at v;obtain⟨E,F,_,_⟩:=gN' (row x).length x (KJ _) o;have H:=aR x;refine cN 31 [.tmp 2,.tmp 3] τok func35 ?_;refine aD<|aD<|af v ?_;refine vn ?_ UO;refine aD<|dK 4 1000 39 1 rfl rfl<|aD<|aB τok (σ:=Tr×List Tr) [] [] (λq=>[(0,.c (.p (ah (row q.1)))),(4,.c (.row 1000))]) (λq=>[(1000,.rw 39 1 ((q.2.map row).map rP))]) (λq=>Ok .tm q.1/\(row q.1).length<=(row x).length/\headT q.1=headT x/\argsT q.1++q.2.reverse=argsT x) (λq=>(row q.1).length) (x,[]) ⟨o,KJ _,rfl,Ud⟩ ?_;rintro⟨⟨n,ks⟩,h⟩ ⟨e,r,d,b⟩;simp only at e r d b;have z:h.length<=4096:=by
  have:=KG List.length b;rw[JK,List.length_reverse]at this;omega
 have I:=aq rP (h.map row);have K:(h.map row).length=h.length:=KF _;refine aj<|aM 0 (x:=n) (by simp[row]) ?_;refine ae (λg=>?_) (λg=>?_)
 ·have g:n.op=6:=g
  obtain⟨f,u,rfl,w,L⟩:=nD e g;obtain⟨r1,r2⟩:=EZ e;rw[lq g]at d;rw[lr g]at b;have C:=aR f;have s:=aR u;have D:=KG List.length r1;simp only[JK,List.length_singleton]at D;have O:=aq ndP (row (.mk n [f,u]));refine af (sE (t:=row (.mk n [f,u])) (a:=[n]) (q:=row u) (y:=f) Uo r1 w) ?_;refine bO (1+(row f).length) (row (.mk n [f,u])).length ?_ (cT _) (h1:=rfl) (h2:=by rw[KF]) (h3:=Uo) (h4:=by rw[KF];show _<=(row (Tr.mk n [f,u])).length;omega);rw[vu (a:=n::row f) (y:=u) (q:=[]) r2 (by rw[JV];omega) (by rw[JV];omega)];refine af (sF s Uo).vc ?_;refine bg ?_ (hb:=Uk);refine bO 1 (1+(row f).length) ?_ (cT _) (h1:=rfl) (h3:=Uo) (h4:=by rw[KF];show _<=(row (Tr.mk n [f,u])).length;omega);rw[vu (a:=[n]) (y:=f) (q:=row u) (p:=1) (n:=1+(row f).length) r1 rfl rfl];exact au (f,h++[u]) ⟨w,Us,d,by simp only[List.reverse_append,List.reverse_cons,List.reverse_nil,List.nil_append];rw[<- b];simp⟩ (f:=λk=>sw 1000 22 k) (hm:=by show (row f).length<(row (Tr.mk n [f,u])).length;omega) (y':=⟨KG (λl=>some (SE.rw _ _ l)) (by simp only[KB];rfl),trivial⟩)
 ·have g:¬ n.op=6:=g
  rw[mu g]at d;rw[nE g]at b;refine aj<|rO (j:=1000) (l:=(h.map row).map rP) revP ?_ ⟨Uo,EX _⟩;refine af (sF (l:=row (.mk n ks)) (aR _) Uo).vc ?_;rw[EY b,<- d];exact aF
theorem LH{x:Tr}(o:Ok .tm x)(r:(row x).length<=4096):VC prog 226 [ah (row x)] (.tup [ah (row (headT x)),bG ((argsT x).map row)]):=by
 obtain⟨D,E,_,_⟩:=gN' (row x).length x (KJ _) o;have F:=aR x;refine cN 26 [.tmp 2,.tmp 3] τok func226 ?_;refine aD<|aD<|dK 4 1000 39 1 rfl rfl<|aD<|aB τok (σ:=Tr×List Tr) [] [] (λq=>[(0,.c (.p (ah (row q.1)))),(4,.c (.row 1000))]) (λq=>[(1000,.rw 39 1 ((q.2.map row).map rP))]) (λq=>Ok .tm q.1/\(row q.1).length<=(row x).length/\headT q.1=headT x/\argsT q.1++q.2.reverse=argsT x) (λq=>(row q.1).length) (x,[]) ⟨o,KJ _,rfl,Ud⟩ ?_;rintro⟨⟨n,ks⟩,h⟩ ⟨e,i,d,b⟩;simp only at e i d b;have v:h.length<=4096:=by
  have:=KG List.length b;rw[JK,List.length_reverse]at this;omega
 have H:=aq rP (h.map row);have I:(h.map row).length=h.length:=KF _;refine aj<|aM 0 (x:=n) (by simp[row]) ?_;refine ae (λg=>?_) (λg=>?_)
 ·have g:n.op=6:=g
  obtain⟨f,u,rfl,s,K⟩:=nD e g;obtain⟨r1,r2⟩:=EZ e;rw[lq g]at d;rw[lr g]at b;have w:=aR f;have z:=aR u;have C:=KG List.length r1;simp only[JK,List.length_singleton]at C;have L:=aq ndP (row (.mk n [f,u]));refine af (sE (t:=row (.mk n [f,u])) (a:=[n]) (q:=row u) (y:=f) Uo r1 s) ?_;refine bO (1+(row f).length) (row (.mk n [f,u])).length ?_ (cT _) (h1:=rfl) (h2:=by rw[KF]) (h3:=Uo) (h4:=by rw[KF];show _<=(row (Tr.mk n [f,u])).length;omega);rw[vu (a:=n::row f) (y:=u) (q:=[]) r2 (by rw[JV];omega) (by rw[JV];omega)];refine bg ?_ (hb:=Uk);refine bO 1 (1+(row f).length) ?_ (cT _) (h1:=rfl) (h3:=Uo) (h4:=by rw[KF];show _<=(row (Tr.mk n [f,u])).length;omega);rw[vu (a:=[n]) (y:=f) (q:=row u) (p:=1) (n:=1+(row f).length) r1 rfl rfl];exact au (f,h++[u]) ⟨s,Us,d,by simp only[List.reverse_append,List.reverse_cons,List.reverse_nil,List.nil_append];rw[<- b];simp⟩ (f:=λk=>sw 1000 18 k) (hm:=by show (row f).length<(row (Tr.mk n [f,u])).length;omega) (y':=⟨KG (λl=>some (SE.rw _ _ l)) (by simp only[KB];rfl),trivial⟩)
 ·have g:¬ n.op=6:=g
  rw[mu g]at d;rw[nE g]at b;refine aj<|rO (j:=1000) (l:=(h.map row).map rP) revP ?_ ⟨Uo,EX _⟩;rw[EY b,<- d];exact aF
def atP(x:Atom):List PV:=[pI x.var,pI x.add]
def cw(l:List Atom):PV:=.sl (l.map atP)
def de(r:Except Int Tr):PV:=match r with
 | .error e=>.tup [.sl [],pI e]
 | .ok y=>.tup [ah (row y),pI 0]
theorem cA{x:Tr}(b:Wf x){k:Nat}(d:k<(kidsT x).length:=by omega):(kidsT x)[k]?=some (kidD x k)/\Wf (kidD x k)/\(row (kidD x k)).length<(row x).length:=by
 have h:(kidsT x)[k]?=some (kidD x k):=by
  unfold kidD;rw[QK,List.getElem?_eq_getElem d]
  rfl
 exact⟨h,b.kid h,ij b.ok h⟩
theorem vw{x:Tr}(b:Wf x):∀y∈kidsT x,Wf y/\(row y).length<(row x).length:=λy e=>by
 obtain⟨k,d⟩:=JH e;exact⟨b.kid d,ij b.ok d⟩
theorem aC{Q:Nd ->Prop}{N:Int}{x:Tr}(h:Ft Q N x):Wf x:=⟨h.ok,h.len⟩
theorem aN{x:Tr}(b:Wf x):(row x)[0]?=some x.n:=by rw[iH b.ok];rfl
theorem aK{x:Tr}(b:Wf x){k:Nat}(d:k<(kidsT x).length:=by omega):((kidsT x).map row)[k]?=some (row (kidD x k)):=by
 rw[JX,(cA b d).1]
 rfl
theorem nW{x:Tr}(i:Ok .tm x)(h:x.n.op=4 \/x.n.op=5):row x=[x.n]++(row (kidD x 0)++row (kidD x 1))/\row x=(x.n::row (kidD x 0))++row (kidD x 1)/\kidsT x=[kidD x 0,kidD x 1]/\Ok .tm (kidD x 0):=by
 obtain⟨o,q⟩:=mz i Uo Uo;have r:bw x.n=2:=by rcases h with h|h<;>simp[bw,h]
 obtain⟨a,b,d⟩:=ya (l:=x.ks) Uo;have e:=o;rw[d]at e;have s:kidD x 0=a:=by simp[kidD,e]
 have v:kidD x 1=b:=by simp[kidD,e]
 have w:Ok .tm a:=by
  obtain⟨n,ks⟩:=x;simp only[Tr.ks]at d;subst d;have j:=i.kids;have k:=kt j.2.1 j.2.2;have:nx Md.tm n 0= .tm:=by rcases h with h|h<;>simp only[Tr.n]at h<;>simp[nx,h]
  rw[this]at k;exact k.1
 rw[s,v];refine⟨?_,?_,e,w⟩
 ·obtain⟨n,ks⟩:=x
  simp only[Tr.ks]at d;subst d;simp[row,rows,Tr.n]
 ·obtain⟨n,ks⟩:=x
  simp only[Tr.ks]at d;subst d;simp[row,rows,Tr.n]
theorem ql{x:Tr}(j:Ok .tm x)(h:x.n.op=7):kidsT x=[kidD x 0,kidD x 1,kidD x 2]/\Ok .tm (kidD x 0)/\Ok .tm (kidD x 1)/\row x=[x.n]++(row (kidD x 0)++(row (kidD x 1)++row (kidD x 2)))/\row x=(x.n::row (kidD x 0))++(row (kidD x 1)++row (kidD x 2))/\row x=(x.n::(row (kidD x 0)++row (kidD x 1)))++row (kidD x 2):=by
 obtain⟨q,r⟩:=mz j Uo Uo;have s:bw x.n=3:=by simp[bw,h]
 obtain⟨a,b,c,e⟩:=DF (l:=x.ks) Uo;have d:=q;rw[e]at d;have v:kidD x 0=a:=by simp[kidD,d]
 have w:kidD x 1=b:=by simp[kidD,d]
 have z:kidD x 2=c:=by simp[kidD,d]
 rw[v,w,z];obtain⟨n,ks⟩:=x;simp only[Tr.ks]at e;subst e;have C:n.op=7:=h;have k:=j.kids;have i:=kt k.2.1 k.2.2;have o:=kt i.2.1 i.2.2;have:nx Md.tm n 0= .tm:=by simp[nx,C]
 rw[this]at i o;exact⟨d,i.1,o.1,by simp[row,rows,Tr.n],by simp[row,rows,Tr.n],by simp[row,rows,Tr.n]⟩
theorem eV{Q:Nd ->Prop}{N:Int}{x:Tr}(h:Ft Q N x)(h4:x.n.op=4 \/x.n.op=5):(kidsT x).length=2/\Ft Q N (kidD x 0)/\Ft Q (N+1) (kidD x 1):=by
 obtain⟨d,e⟩:=mz h.ok Uo Uo;have i:bw x.n=2:=by rcases h4 with h4|h4<;>simp[bw,h4]
 have f1:=h.kidN 0 (by rw[d];omega) (b:=0) (by rcases h4 with h4|h4<;>simp[kb,bi,h4]);have f2:=h.kidN 1 (by rw[d];omega) (b:=1) (by rcases h4 with h4|h4<;>simp[kb,bi,h4]);rw[Int.add_zero]at f1;exact⟨by rw[d];omega,f1,f2⟩
theorem sG{Q:Nd ->Prop}{N:Int}{x:Tr}(h:Ft Q N x)(e:x.n.op=6):(kidsT x).length=2/\Ft Q N (kidD x 0)/\Ft Q N (kidD x 1):=by
 obtain⟨d,i⟩:=mz h.ok Uo Uo;have j:bw x.n=2:=by simp[bw,e]
 have f1:=h.kidN 0 (by rw[d];omega) (b:=0) (by simp[kb,bi,e]);have f2:=h.kidN 1 (by rw[d];omega) (b:=0) (by simp[kb,bi,e]);rw[Int.add_zero]at f1 f2;exact⟨by rw[d];omega,f1,f2⟩
theorem o9{Q:Nd ->Prop}{N:Int}{x:Tr}(h:Ft Q N x)(e:x.n.op=7):(kidsT x).length=3/\Ft Q N (kidD x 0)/\Ft Q N (kidD x 1)/\Ft Q (N+1) (kidD x 2):=by
 obtain⟨d,i⟩:=mz h.ok Uo Uo;have j:bw x.n=3:=by simp[bw,e]
 have f1:=h.kidN 0 (by rw[d];omega) (b:=0) (by simp[kb,bi,e]);have f2:=h.kidN 1 (by rw[d];omega) (b:=0) (by simp[kb,bi,e]);have f3:=h.kidN 2 (by rw[d];omega) (b:=1) (by simp[kb,bi,e]);rw[Int.add_zero]at f1 f2;exact⟨by rw[d];omega,f1,f2,f3⟩
theorem iI{x:Tr}{ys:List Tr}{e:Int}(h:aP x ys= .error e):e=9:=by
 unfold aP at h;split at h
 ·injection h with h;exact h.symm
 ·cases h
theorem gY{b u:Tr}{v:Int}{e:Int}(h:bh b u v= .error e):e=9:=by
 unfold bh at h;split at h
 ·injection h with h;exact h.symm
 ·cases h
theorem E1{D:Mem}:∀{css:List (List Value)} {vs:List Value},All2 (rVal.den D) css vs ->css=vs.map λv=>[v]
 |[],[],_=>rfl
 |a::r,v::s,h=>by
  obtain⟨⟨e,_⟩,h⟩:=h;rw[List.map_cons,<- e,E1 h]
theorem LI{f:FuncId}{K:List PV}{ys:List Tr}(z:dO prog f)(h:∀(w:World) (C:Mem) (vs:List Value),Sub C w ->(∀b o v,C b o v ->b<w.heap.size) ->db C K vs ->Calls prog f vs.toArray w λe w'=>∃v os D,e= .returned v/\Own rVal 39 w.heap.size w' v os/\uj D os ys/\rB C w D w'/\∀g,blk v=some g ->∀b o u,D b o u ->b≠g):VO prog f K 39 1 ((ys.map row).map rP):=.of ⟨z,λw C vs L R=>by
 refine(h w C vs L (λb o v h=>(L b o v h).lt) R).mono λe w' ⟨u,os,D,T,V,O,W,E⟩=>?_;have l:=O.1;obtain⟨X,q1,Y⟩:=V.row;obtain rfl:=E1 Y;refine⟨u,D,os.map λv=>[v],T,by have h:=q1;rw[l]at h;rw[KF,KF];exact h,λx d=>by obtain⟨_,_,rfl⟩:=List.mem_map.1 d;rfl,by simp[l],λi us x r d=>?_,W,E⟩;rw[JX]at r d;rw[JX]at d;cases F:os[i]? with
 |none=>rw[F]at r;cases r
 |some v=>
  cases k:ys[i]? with
  |none=>rw[k]at d;cases d
  |some y=>
   rw[F]at r;rw[k]at d;obtain rfl:=JB r;obtain rfl:=JB d;obtain⟨a,c,rfl,s,Z⟩:=O.2 i v y F k;have s:TmV D y (.slice a (row y).length c):=⟨a,c,rfl,s,Z⟩
   refine⟨rfl,λj p q H I=>?_⟩
   match j,H,I with
   |0,H,I=>
    obtain rfl:=JB H;obtain rfl:=JB I;exact⟨(TmV.sv.1 s).one,(TmV.sv.1 s).rv iM'⟩⟩
theorem E2{ys:List Tr}(D:∀y∈ys,Ok .tm y/\(row y).length<=4096)(hl:ys.length<=100000):VO prog 179 [bG (ys.map row)] 39 1 ((ys.map row).map rP):=LI ⟨_,func179,rfl,UO⟩ λw C i r d E=>by
 obtain⟨v,rfl,F⟩:=EI E;obtain⟨a,c,i,rfl,O,j,s⟩:=(K8 D Uo F).vals;have l:=s.1;rw[<- l];refine(Jj r i a c j Uo).2.mono λe R ⟨⟨u,H,q⟩,k⟩=>⟨u,i,C,H,q,s,⟨r.tr k,λ_ _ _ h=>h,λb o v h=>.inl ⟨o,v,h⟩,k⟩,λg I b o z K=>?_⟩
 obtain⟨L,q1,_⟩:=q.row;have:=q.block g (by rw[<- nJ q1];exact I);have:=d b o z K;omega
section
variable{Q:Nd ->Prop}{N:Int}{x y:Tr}
theorem iJ(b:Ft Q N x):VC prog 130 [ah (row x)] (bG ((kidsT x).map row)):=(EU b.ok b.len).vc
theorem kO(d:Ft Q N x)(e:N<=100000){b:Int}(hb:0<=b/\b<=500000):VC prog 123 [ah (row x),pI b,pI 0] (.tup [ah (row (aG x b 0)),pI 0]):=ES d.ok (d.small e) d.len hb ⟨UO,UO⟩
theorem vz(b:Ft Q N x):VC prog 35 [ah (row x)] (.tup [ah (row (headT x)),bG ((argsT x).map row)]):=E0 b.ok b.len
theorem nX{u:Tr}{v:Int}(d:Ft Q (N+1+v) x)(b:Ft Q N u)(e:N<=100000)(h:0<=v/\v<=300000):VC prog 137 [ah (row x),ah (row u),pI v] (de (bh x u v)):=by
 rw[show de (bh x u v)=_ by unfold bh;rw[apply_ite de]];exact Lz d.ok b.ok (b.small e) d.len b.len h
theorem zB{ys:List Tr}(b:Ft Q N x)(d:∀y∈ys,Ft Q N y)(e:ys.length<=100000):VC prog 161 [ah (row x),bG (ys.map row)] (de (aP x ys)):=by
 rw[show de (aP x ys)=_ by unfold aP;rw[apply_ite de]];exact LD b.ok b.len (λy h=>⟨(d y h).ok,(d y h).len⟩) e
theorem fM(l:List (List PV)):VC prog 122 [.sl l,pI 0] (.sl l):=by
 refine vf 11 [.tmp 4] τok func122 ?_;refine vn ?_ UO;exact aF
theorem jy(l:List (List PV)){e:Int}(he:e≠0):VE prog 122 [.sl l,pI e] (fd e):=by
 refine o7 (r:=.error (fd e)) 11 [.tmp 4] τok func122 ?_;refine aj<|vy ?_ he;exact sr (λw=>by simp[Instr.makeInterface,underlying177,go_sem])<|rfl
theorem LJ(b:Ft Q N x):VO prog 130 [ah (row x)] 39 1 (((kidsT x).map row).map rP):=EU b.ok b.len
end
def gf(x:Tr):PV:=.agg [ah (row (headT x)),bG ((argsT x).map row)]
section
variable{Q:Nd ->Prop}{N:Int}{x y p:Tr}
theorem endP{a q:List Nd}(b:Ft Q N x)(e:row x=a++(row y++q))(d:Ok .tm y){i:Int}(hi:i=(a.length:Int)):VC prog 34 [ah (row x),pI i] (pI ((a.length+(row y).length:Nat):Int)):=by
 subst hi;exact sE (by have:=b.len;omega) e d
theorem zC(d:Ft Q N x)(b:x.n.op=12):VC prog 240 [ah (row x)] (pI (bY x)):=by
 have X:=dZ d.ok b;have D:=d.len;obtain⟨f,E,o,H,I⟩:=nI d.ok b;obtain⟨k,K⟩:∃k:Nat,x.n.a=(k:Int):=⟨x.n.a.toNat,Uo⟩
 rw[K,Int.toNat_natCast]at E;have j:∀i,i<=k ->(rows (x.ks.take i)).length<(row x).length:=λi L=>by
  obtain⟨g,O,_⟩:=az (l:=x.ks) (k:=i);obtain⟨q,r,_,_,_,_,_,_,e,_⟩:=lA d.ok b O;have:=aL e;omega
 refine vf 22 [.tmp 2] τok func240 ?_;refine aM 0 (aN (aC d)) ?_;refine aB τok (σ:=Nat) [(0,_),(7,_)] [] (λi=>[(8,vI i),(3,vI ((1+(rows (x.ks.take i)).length:Nat):Int))]) (λ_=>[]) (λi=>i<=k) (λi=>k-i) 0 (KV _) ?_;intro i L;refine aj<|ae (λg=>?_) (λg=>?_)
 ·have g:(i:Int)<x.n.a:=g
  obtain⟨h,F,_⟩:=az (l:=x.ks) (k:=i);obtain⟨q,r,s,v,_,w,C,_,_,R,T⟩:=lA d.ok b F;have V:=j (i+1) Uo;have W:(rows (x.ks.take (i+1))).length=(rows (x.ks.take i)).length+(1+((row q).length+(row r).length)):=by
   rw[dP F,de',JK,s];simp[rows,row];omega
  refine vi ?_;refine af (endP d (i:=((1+(rows (x.ks.take i)).length:Nat):Int)+1) R w Uk) ?_;refine af (endP d T C Uk) ?_;refine vi ?_;exact au (i+1) (show i+1<=k by omega) (x:=⟨rfl,KG (λz=>some (vI z)) (by rw[W];simp;omega),trivial⟩)
 have g:¬ (i:Int)<x.n.a:=g;obtain rfl:i=k:=Uo
 obtain⟨q,r,_,v,_,_,_,_,e,_⟩:=lA d.ok b E;exact aM (1+(rows (x.ks.take i)).length) e<|⟨_,_,rfl,rfl,KG (PV.int .i64) o.symm⟩
theorem qm(b:Ft Q N x):VC prog 200 [ah (row x)] (gf x):=by
 refine vf 13 [.cell 2 240] τok func200 ?_;refine af (vz b) ?_;exact aF
theorem E3(b:Ft Q N x):VC prog 201 [gf x] (ah (row x)):=by
 have h:=b.nargs;have i:=b.len;have d:=zB b.head b.args Uo;have e:aP (headT x) (argsT x)= .ok x:=by
  unfold aP;rw[b.spine,KY Uo]
 rw[e]at d;refine vf 11 [.tmp 2] τok func201 ?_;refine af d ?_;refine af (fM _) ?_;exact aF
theorem qn{ys:List Tr}(j:Qk Q)(d:Ft Q N x)(i:∀y∈ys,Ft Q N y)(k:ys.length<=100000):VX prog 242 [ah (row x),bG (ys.map row)] (match aP x ys with
  | .ok z=>.ok (gf z)
  | .error e=>.error (fd e)):=by
 have b:=zB d i k;refine o7 12 [.cell 4 240] τok func242 ?_;refine aj ?_;cases h:aP x ys with
 |error e=>
  rw[h]at b;have l:e≠0:=by
   unfold aP at h;split at h
   ·injection h with h
    omega
   ·cases h
  refine af b ?_;refine bV (jy _ l) ?_;exact rfl
 |ok z=>
  rw[h]at b;refine af b ?_;refine af (fM _) ?_;refine af (qm (gv j d i h)) ?_;exact aF
theorem E4(b:Ft Q N x):VC prog 221 [gf x] (pI (len x)):=by
 have j:=b.nargs;have o:=b.len;have q:=aq ndP (row (headT x));have r:=aq (λt=>[ah t]) ((argsT x).map row);have s:=aq row (argsT x);have d:∀i,i<=(argsT x).length ->(rows ((argsT x).take i)).length<=(rows (argsT x)).length:=λi e=>by
  have:=KG (λl=>(rows l).length) (List.take_append_drop i (argsT x));simp only[de',JK]at this;omega
 refine cN 23 [.tmp 2] τok func221 ?_;refine aj ?_;refine vl τok (σ:=Nat) [(10,_),(11,_)] (λi=>[(3,vI (((row (headT x)).length+i+(rows ((argsT x).take i)).length:Nat):Int)),(12,vI i)]) (λi=>i<=(argsT x).length) (λi=>(argsT x).length-i) 0 (KV _) ?_ (x1:=⟨KG (λn:Int=>some (vI n)) (by simp[rows]),rfl,trivial⟩);intro i e;have v:=d i e;refine ae (λg=>?_) (λg=>?_)
 ·have g:(i:Int)<((((argsT x).map row).map λt=>[ah t]).length:Int):=g
  obtain⟨a,h,_⟩:=az (l:=argsT x) (k:=i);have w:=d (i+1) Uo;have z:=aq ndP (row a);have C:(rows ((argsT x).take (i+1))).length=(rows ((argsT x).take i)).length+(row a).length:=by
   rw[dP h,de',JK];simp[rows]
  refine aA i (x:=row a) (by rw[JX,h];rfl) ?_;refine vi ?_;refine vi ?_;refine vi ?_;exact au (i+1) (by show i+1<=_;omega) (x:=⟨KG (λn:Int=>some (vI n)) Uo,rfl,trivial⟩)
 ·have g:¬ (i:Int)<((((argsT x).map row).map λt=>[ah t]).length:Int):=g
  refine⟨_,_,rfl,rfl,?_⟩;rw[JG Uo];show pI _=pI _;unfold len
  congr 1
  omega
theorem LK(b:Ft Q N x)(room:Int):VX prog 224 [gf x,pI room] (if room<len x then .error (fd 9)else .ok (gf x)):=by
 refine o7 12 [.cell 4 240] τok func224 ?_;refine aj<|af (E4 b) ?_;refine ae (λg=>?_) (λg=>?_)
 ·rw[KX g]
  exact sr (Dx _)<|rfl
 ·rw[KY g]
  exact aF
end
section
variable{Q:Nd ->Prop}{N:Int}{x y p:Tr}
theorem LL(o:Ft Q N x):VC prog 219 [gf x] (match cE x with
  |some p=>.tup [ah (row p),.bool true]
  |none=>.tup [.sl [],.bool false]):=by
 have d:=o.head;have i:=aC d;have C:=aq (λt=>[ah t]) ((argsT x).map row);have D:=aq row (argsT x);unfold cE;refine vf 32 [.tmp 2,.tmp 3] τok func219 ?_;refine aM 0 (aN i) ?_;refine ae (λg=>?_) (λg=>?_)
 ·have g:(headT x).n.op=11:=g
  obtain⟨q,r,_,_⟩:=gP d.ok g;rw[KX g];refine af (iJ d) ?_;refine aA 1 (aK i (by rw[q];omega)) ?_;exact aF
 have g:¬ (headT x).n.op=11:=g;rw[KY g];refine ae (λb=>?_) (λb=>?_)
 ·have b:(headT x).n.op=12:=b
  rw[KX b];obtain⟨f,E,s,v,w⟩:=nI d.ok b;refine af (zC d b) ?_;refine ae (λh=>?_) (λh=>?_)
  ·have h:bY (headT x)<((((argsT x).map row).map λt=>[ah t]).length:Int):=h
   rw[KX Uo];obtain⟨z,j,_⟩:=az (l:=argsT x) (k:=(bY (headT x)).toNat);have e:fJ x (bY (headT x))=z:=by simp[fJ,j]
   rw[e];refine aA (bY (headT x)).toNat (x:=row z) (by rw[JX,j];rfl) ?_;exact aF
  ·have h:¬ bY (headT x)<((((argsT x).map row).map λt=>[ah t]).length:Int):=h
   rw[KY Uo];exact aF
 ·have b:¬ (headT x).n.op=12:=b
  rw[KY b];exact aF
theorem LM{ys:List Tr}{L:List (List PV)}(b:L=(ys.map row).map rP)(e:∀y∈ys,Ok .tm y/\(row y).length<=4096)(hl:ys.length<=100000)(d:0<(rows ys).length)(h1:(rows ys).length<=100000):VC prog 190 [.sl L] (.sl ((rows ys).map ndP)):=by
 subst b;have h:=(EW (L:=ys.map row) (by rw[KF];omega) (by rw[fk'];exact d) (by rw[fk'];omega)).vc
 rwa [fk']at h
theorem LN(F:Qk Q)(e:Ft Q N x)(D:Ft Q N p)(b:cE x=some y)(hl:(row (bP x p)).length<=4096):VC prog 220 [gf x,ah (row p)] (gf (bP x p)):=by
 obtain⟨H,I,K⟩:=x8 F e D b hl;have j:=e.head;have v:=aC j;have hn:=e.nargs;have O:=e.len;have o:=gO j.ok;have d:=H.head;have e2:=aq row (argsT x);unfold gf;rw[K];rw[I]at d ⊢;refine vf 43 [.cell 4 240] τok func220 ?_;refine aM 0 (aN v) ?_;refine ae (λg=>?_) (λg=>?_)
 ·have g:(headT x).n.op=11:=g
  rw[KX g]at d;rw[KX g,KX g];obtain⟨w,R,_,_⟩:=gP j.ok g;obtain⟨T,C⟩:∃k,(headT x).ks[1]?=some k:=⟨_,gE⟩
  rw[w]at o;have q:((headT x).ks.map row)[1]?=some (row T):=by rw[JX,C];rfl
  have V:(row (.mk (headT x).n ((headT x).ks.set 1 p))).length=1+(rows ((headT x).ks.set 1 p)).length:=by
   simp[row];omega
  have W:=d.len;have r:∀{l:List Tr} {z:Tr},z∈l ->(row z).length<=(rows l).length:=λh=>eI' h;have X:=aR p;have Y:=r (l:=(headT x).ks.set 1 p) (z:=p) (JQ (i:=1) (by rw[List.getElem?_set_self Uo]));refine gV (LJ j) ?_;rw[w];refine aA 1 q ?_;refine ef q<|aM 0 (aN v) ?_;have Z:=LM (ys:=(headT x).ks.set 1 p) (L:=(((headT x).ks.map row).map rP).set 1 [ah (row p)]) (by rw[List.map_set,List.map_set];rfl) (λz s=>⟨?_,?_⟩) Uk Uo Uo
  ·refine af Z ?_
   refine va (p:=ndP) ?_ (gX _);refine vk<|⟨_,_,rfl,rfl,?_⟩
   generalize headT x=h
   rfl
  ·rcases List.mem_or_eq_of_mem_set s with h|rfl
   ·rw[<- w]at h
    exact(vw v z h).1.ok
   ·exact D.ok
  ·have:=r s
   omega
 ·have g:¬ (headT x).n.op=11:=g
  rw[KY g,KY g];unfold cE at b;rw[KY g]at b;split at b
  ·rename_i E
   split at b
   ·rename_i g3
    obtain⟨f,hf,a0,a1,a2⟩:=nI j.ok E;obtain⟨z,s,_⟩:=az (l:=argsT x) (k:=(bY (headT x)).toNat);have q:((argsT x).map row)[(bY (headT x)).toNat]?=some (row z):=by rw[JX,s];rfl
    refine gV (E2 (ys:=argsT x) (λy b=>⟨(e.args y b).ok,(e.args y b).len⟩) Uo) ?_;refine af (zC j E) ?_;refine aA (bY (headT x)).toNat q ?_;refine ef q<|⟨_,_,rfl,rfl,?_⟩;unfold bG;rw[List.map_set,List.map_set]
    rfl
   ·cases b
  ·cases b
end
theorem vA{Q:Nd ->Prop}{N:Int}{x:Tr}(h:Ft Q N x)(h1:x.n.op=1):0<=x.n.a/\x.n.a<N:=by
 obtain⟨n,ks⟩:=x;exact⟨(h.var_lt h1).1,(h.var_lt h1).2.1⟩
def iK(B:ak)(cx:Ctx)(n:Int):List PV:=[.int .i64 B.vars,.sl (B.orders.map orP),.sl (B.ents.map bI),.int .i64 B.nat,.sl (B.prims.map prP),aO (cx.map aE),pI n]
section
variable{B:ak}{cx:Ctx}{N:Int}{x:Tr}{fu:Int}
theorem LO(K:GoodB B){n:Nd}(L:QB B n)(z:n.op=11){s:Tr}(w:Ft (QB B) N s):VP prog 241 265 (iK B cx fu) (iK B cx fu) [.agg (ndP n),gf s] (.bool (iD B n s)):=by
 have O:=aC w.head;obtain⟨i,e,Y,Z,qi,hi,R,T,j,C⟩:=K.fam (kA L (.inr z)) (KJ _);have e1:=aq (λt=>[ah t]) ((argsT s).map row);have e2:=aq row (argsT s);have e3:=aq (λt=>[ah t]) e.params;have H:=w.nargs;have D:=dn w.head.ok.pl;obtain⟨c,E⟩:∃c,(headT s).n=c:=⟨_,rfl⟩
 have I:=w.head.node';rw[E]at D I;have b:iD B n s=(decide (c.op=10) && (decide (c.a=n.a) && (decide (c.b<n.b) && decide ((argsT s).length=e.params.length+(iZ B n.a c.b).args.length)))):=by
  unfold iD fI;rw[E,j]
 refine aX (r:=.ok (iK B cx fu,.bool (iD B n s))) 57 [.tmp 6] τok func241 ?_;refine aj<|aM 0 (aN O) ?_;refine cS i T ?_;refine vk ?_;rw[E];refine ae (λk=>?_) (λk=>?_);rotate_left
 ·refine vk ?_
  rw[b,KH k];exact eP9
 have k:c.op=10:=k;refine ae (λl=>?_) (λl=>?_);rotate_left
 ·refine vk ?_
  rw[b,KH (p:=c.a=n.a) l,Bool.false_and,Bool.and_false];exact eP9
 have l:c.a=n.a:=l;refine ae (λo=>?_) (λo=>?_);rotate_left
 ·refine vk ?_
  rw[b,KH (p:=c.b<n.b) o,Bool.false_and,Bool.and_false,Bool.and_false];exact eP9
 have o:c.b<n.b:=o;have F:=uA I k;rw[l,j]at F;obtain⟨q,d⟩:∃q,e.ctors[c.b.toNat]?=some q:=⟨_,gE⟩
 have h:iZ B n.a c.b=q:=by
  unfold iZ;rw[j,QK,d]
  rfl
 have e4:=aq (λt=>[ah t]) q.args;obtain⟨ga,go,v⟩:=C.ct _ q d;have V:e.params.length<=16:=by rw[C.params,KF];exact C.lp
 have W:q.args.length<=16:=by rw[v.args,KF];exact v.la
 refine ee c.b.toNat d ?_;refine vi ?_;refine ae (λX=>?_) (λX=>?_)
 ·refine vk ?_
  rw[b,h,KU k,KU l,KU o,KU Uo];exact eP9
 ·refine vk ?_
  rw[b,h,KU k,KU l,KU o,KH Uo];exact eP9
theorem LP(hB:GoodB B)(a0:cx.length<=100000)(V:Ft (QB B) (cx.length:Int) x):VP prog 222 265 (iK B cx fu) (iK B cx fu) [gf x] (.bool (cD B cx x)):=by
 have j:=V.head;have W:=aC j;have e1:=aq (λt=>[ah t]) ((argsT x).map row);have e2:=aq row (argsT x);have eC:=aq bdP (cx.map aE);have a1:=aq aE cx;have hq:=j.node';have E:=λ(h1:(headT x).n.op=1)=>vA j h1;generalize d:cD B cx x=F;unfold cD at d;simp only at d
 generalize K:headT x=h at *
 refine aX (r:=.ok (iK B cx fu,.bool F)) 76 [.tmp 4] τok func222 ?_;refine aj ?_;unfold gf;rw[K];refine aM 0 (aN W) ?_;refine ae (λv=>?_) (λv=>?_)
 ·have v:h.n.op=5:=v
  rw[KX v]at d;refine ae (λg=>?_) (λg=>?_)
  ·have g:(0:Int)<((((argsT x).map row).map λt=>[ah t]).length:Int):=g
   rw[KU Uo]at d;subst d;exact eP9
  ·have g:¬ (0:Int)<((((argsT x).map row).map λt=>[ah t]).length:Int):=g
   rw[KH Uo]at d;subst d;exact eP9
 have v:¬ h.n.op=5:=v;rw[KY v]at d;refine ae (λC=>?_) (λC=>?_)
 ·have C:h.n.op=7:=C
  rw[KX (.inl C)]at d;subst d;exact eP9
 have C:¬ h.n.op=7:=C;refine ae (λD=>?_) (λD=>?_)
 ·have D:h.n.op=8:=D
  rw[KX (.inr D)]at d;subst d;exact eP9
 have D:¬ h.n.op=8:=D;rw[KY Uo]at d;refine ae (λo=>?_) (λo=>?_)
 ·have o:h.n.op=1:=o
  rw[KX o]at d;obtain⟨n0,n1⟩:=E o;have H:=nH n0 n1;obtain⟨⟨ty,w⟩,L⟩:∃q,fR cx h.n.a=q:=⟨_,rfl⟩
  rw[L]at H d;have O:(cx.map aE)[cx.length-1-h.n.a.toNat]?=some (row ty,qA' w):=by rw[JX,H];rfl
  have e3:=aq ndP (qA' w);have X:=Ji w;refine vi ?_;refine vi ?_;refine vm (p:=bdP) (cx.length-1-h.n.a.toNat) O ?_ Uo;refine ae (λg=>?_) (λg=>?_)
  ·have g:(0:Int)<(((qA' w).map ndP).length:Int):=g
   rw[X.1 Uo]at d;subst d;exact kP9
  ·have g:¬ (0:Int)<(((qA' w).map ndP).length:Int):=g
   have:w.isSome=false:=by
    cases hs:w.isSome with
    |false=>rfl
    |true=>
     have:=X.2 hs;omega
   rw[this]at d;subst d;exact kP9
 have o:¬ h.n.op=1:=o;rw[KY o]at d;refine ae (λe=>?_) (λe=>?_)
 ·have e:h.n.op=11:=e
  rw[KX e]at d;obtain⟨Y,a2,_,_⟩:=gP j.ok e;have Z:=j.kidN 1 (by rw[Y];omega) (b:=0) (by simp[kb,bi,e]);have s:=LO (cx:=cx) (fu:=fu) hB hq e Z;rw[d]at s;refine af (iJ j) ?_;refine aA 1 (aK W (by rw[Y];omega)) ?_;refine af (qm Z) ?_;refine ay s ?_;exact kP9
 have e:¬ h.n.op=11:=e;rw[KY e]at d;refine ae (λi=>?_) (λi=>?_)
 ·have i:h.n.op=12:=i
  rw[KX i]at d;obtain⟨f,hf,a3,a4,a5⟩:=nI j.ok i;refine af (zC j i) ?_;refine ae (λI=>?_) (λI=>?_)
  ·have I:bY h<((((argsT x).map row).map λt=>[ah t]).length:Int):=I
   rw[KU (show bY h<((argsT x).length:Int) by omega),Bool.true_and]at d;obtain⟨z,R,_⟩:=az (l:=argsT x) (k:=(bY h).toNat);rw[QK,R]at d;have d:decide ((headT z).n.op=10)=F:=d;have fz:=V.args z (JQ R);refine aA (bY h).toNat (x:=row z) (by rw[JX,R];rfl) ?_;refine af (qm fz) ?_;refine aM 0 (aN (aC fz.head)) ?_;refine ae (λT=>?_) (λT=>?_)
   ·rw[KU (p:=(headT z).n.op=10) T]at d
    subst d;exact eP9
   ·rw[KH (p:=(headT z).n.op=10) T]at d
    subst d;exact eP9
  ·have I:¬ bY h<((((argsT x).map row).map λt=>[ah t]).length:Int):=I
   rw[KH (show ¬ bY h<((argsT x).length:Int) by omega),Bool.false_and]at d;subst d;exact eP9
 ·have i:¬ h.n.op=12:=i
  rw[KY i]at d;subst d;exact eP9
end
theorem dL{x y:Tr}{a q:List Nd}(e:row x=a++(row y++q)){p n:Nat}(b:p=a.length)(d:n=a.length+(row y).length):PV.sl ((((row x).map ndP).take n).drop p)=ah (row y):=by
 subst b d;rw[e,<- List.map_take,<- List.map_drop,<- List.append_assoc,<- JK,List.take_left' rfl,List.drop_left' rfl]
 rfl
section
variable{Q:Nd ->Prop}{N:Int}{x y p:Tr}
theorem LQ(b:Ft Q N x):VO prog 67 [ah (row x)] 47 3 ((row x).map ndP):=sF (aR x) (by have:=b.len;omega)
theorem LR(n:Nat)(b:n<=1000000):VO prog 258 [.raw (.slice none 0 0),pI n] 39 1 []:=EV ⟨_,func258,rfl,UO⟩ (Jk n b)
def rQ(L:List (List Nd)):List PV:=[.sl (L.map rP)]
theorem LS{L:List (List (List Nd))}(hl:L.length<=1000000)(h1:L.flatten.length<=1000000):VC prog 243 [.sl (L.map rQ)] (bG L.flatten):=by
 have q:=aq rQ L;refine VO.vc (e:=39) (sz:=1)<|o6 36 [.tmp 2] τok func243 ?_;refine aj<|aB τok (σ:=Nat) [(0,_),(9,_),(10,_)] [] (λi=>[(11,vI i),(3,vI ((L.take i).flatten.length:Nat))]) (λ_=>[]) (λi=>i<=L.length) (λi=>L.length-i) 0 (KV _) ?_;intro i h;have j:=nV L i;refine aj<|ae (λg=>?_) (λg=>?_)
 ·have g:(i:Int)<((L.map rQ).length:Int):=g
  obtain⟨x,b,_⟩:=az (l:=L) (k:=i);have o:=vq b;have d:=nV L (i+1);have r:=aq rP x;refine vm (p:=rQ) i b ?_;refine vi ?_;refine vn ?_;refine vi ?_;exact au (i+1) (show i+1<=_ by omega) (x:=⟨rfl,KG (λz=>some (vI z)) (by show ((L.take i).flatten.length:Int)+(x.map rP).length=_;omega),trivial⟩)
 have g:¬ (i:Int)<((L.map rQ).length:Int):=g;obtain rfl:i=L.length:=Uo
 rw[List.take_length];refine aZ (λ_=>100) (λ_=>0) (LR L.flatten.length h1) ?_;refine aB τok (σ:=Nat) [(25,_),(26,_)] [] (λi=>[(27,vI i),(6,.c (.row 100))]) (λi=>[(100,.rw 39 1 ((L.take i).flatten.map rP))]) (λi=>i<=L.length) (λi=>L.length-i) 0 (KV _) ?_;intro i h;have j:=nV L i;refine aj<|ae (λg=>?_) (λg=>?_)
 ·have g:(i:Int)<((L.map rQ).length:Int):=g
  obtain⟨x,b,_⟩:=az (l:=L) (k:=i);have o:=vq b;have d:=nV L (i+1);refine vm (p:=rQ) i b ?_;refine va ?_ (jx x) (hb:=by rw[KF];omega);refine vi ?_;exact au (i+1) (show i+1<=_ by omega) (f:=λk=>sw 100 33 k) (y':=⟨KG (λl=>some (SE.rw _ _ l)) (by show _++_=((L.take (i+1)).flatten).map rP;rw[QQ,b];simp),trivial⟩)
 have g:¬ (i:Int)<((L.map rQ).length:Int):=g;obtain rfl:i=L.length:=Uo
 rw[List.take_length];exact⟨100,rfl,rfl⟩
theorem LU{ys zs:List Tr}{L M:List (List PV)}(b:L=(ys.map row).map rP)(d:M=(zs.map row).map rP)(i:∀y∈ys,Ft Q N y)(j:∀y∈zs,Ft Q N y)(hl:ys.length<=5000)(e:zs.length<=5000):VC prog 243 [.sl [[.sl L],[.sl M]]] (bG ((ys++zs).map row)):=by
 have h:=LS (L:=[ys.map row,zs.map row]) Ud Uk;rw[show [ys.map row,zs.map row].flatten=(ys++zs).map row by simp]at h;rw[b,d];exact h
theorem LV(E:Qk Q)(s:Ft Q N x)(l:x.n.op=12)(Y:0<=N)(Z:N<=90000):VX prog 244 [ah (row x)] (match lB x with
  | .ok z=>.ok (ah (row z))
  | .error e=>.error (fd e)):=by
 have w:=aC s;have hl:=dZ s.ok l;have hk:=gu s.ok l;generalize h:lB x=o;unfold lB at h;have F:kb x.n (2*x.n.a.toNat+1)=x.n.b:=by
  unfold kb;rw[KX l,KX Uo]
 have T:=s.kidN (2*x.n.a.toNat+1) Uo F;obtain⟨L,H⟩:∃k,x.n.b.toNat=k:=⟨_,rfl⟩
 rw[H]at h;refine o7 45 [.tmp 2] τok func244 ?_;refine aj<|aM 0 (aN w) ?_;refine af (iJ s) ?_;refine aM 0 (aN w) ?_;refine vi ?_;refine vi ?_;refine aA (2*x.n.a.toNat+1) (aK w) ?_;refine vk ?_;refine vi ?_;refine aB τok (σ:=Nat×Tr) [(0,_)] [] (λq=>[(4,vP (ah (row q.2))),(5,vI ((q.1:Int)-1))]) (λ_=>[]) (λq=>q.1<=L/\Ft Q (N+q.1) q.2/\jP x q.1 q.2=o) (λq=>q.1) (L,kidD x (2*x.n.a.toNat+1)) ⟨KJ _,T.mono Uo,h⟩ ?_ (x1:=⟨rfl,KG (λn:Int=>some (vI n)) Us,trivial⟩)
 clear h
 rintro⟨i,b⟩ ⟨V,I,d⟩;simp only at V I d;refine aj<|ae (λg=>?_) (λg=>?_)
 ·have g:(i:Int)-1≥0:=g
  obtain⟨j,rfl⟩:∃j,i=j+1:=⟨i-1,Uo⟩
  have W:((j+1:Nat):Int)-1=(j:Int):=Uo
  rw[W];have O:=s.fixAt E l (i:=(j:Int)) Uo Uo;have R:=O.lift E (b:=(j:Int)) Uo Uo Uo;have X:(((row x).map ndP).set 0 [pI x.n.op,pI j,pI x.n.b])=(row (fixAt x j)).map ndP:=by
   cases x
   rfl
  have K:=kO O Uo (b:=(j:Int)) Uo;have C:VC prog 123 [.sl (((row x).map ndP).set 0 [pI x.n.op,pI j,pI x.n.b]),pI j,pI 0] (.tup [ah (row (aG (fixAt x j) j 0)),pI 0]):=by
   rw[X];exact K
  have r:=nX (x:=b) (u:=aG (fixAt x j) j 0) (v:=0) (N:=N+j) (I.mono Uo) R Uo Uo;simp only[jP]at d;refine gV (LQ s) ?_;refine aM 0 (aN w) ?_;refine ef (aN w)<|af C ?_;refine af (fM _) ?_;cases D:bh b (aG (fixAt x j) j 0) 0 with
  |error e=>
   have he:=gY D;rw[D]at r d;have d:.error e=o:=d;subst d;refine af r ?_;refine bV (jy _ (show e≠0 by omega)) ?_;exact rfl
  |ok z=>
   rw[D]at r d;have d:jP x j z=o:=d;refine af r ?_;refine af (fM _) ?_;refine vi ?_;exact au (j,z) ⟨Us,(gQ E (N:=N+j) (I.mono Uo) R Uo Uo (Int.le_refl 0) UO D).mono Uo,d⟩
 ·have g:¬ (i:Int)-1≥0:=g
  obtain rfl:i=0:=Uo
  have d:.ok b=o:=d;subst d;exact aF
end
def E5(B:ak)(cx:Ctx)(n:Int)(r:Except Int Tr):Except (List PanicEntry) (List PV×PV):=match r with
 | .ok z=>.ok (iK B cx n,gf z)
 | .error e=>.error (fd e)
section
variable{B:ak}{cx:Ctx}{x:Tr}{fu:Int}
theorem zD(l:List (List Nd)):∀z∈l.map rP,z.length=1:=λz b=>by
 obtain⟨_,_,rfl⟩:=List.mem_map.1 b
 rfl
theorem zE(hB:GoodB B)(a4:CxOk B cx)(a':cx.length<=90000)(hx:Ft (QB B) (cx.length:Int) x)(hr:cD B cx x=true):ju prog 223 265 (iK B cx fu) [gf x] (E5 B cx fu (gR B cx x)):=by
 have D:=qk B;have w:=hx.head;have wh:=aC w;have K:=hx.args;have hn:=hx.nargs;have b0:=hx.len;have b1:=w.len;have e1:=aq (λt=>[ah t]) ((argsT x).map row);have e2:=aq row (argsT x);have eC:=aq bdP (cx.map aE);have b2:=aq aE cx;have hq:=w.node';have a1:=λ(h1:(headT x).n.op=1)=>vA w h1;generalize d:gR B cx x=j;unfold gR at d;unfold cD at hr;simp only at d hr;refine aX (r:=E5 B cx fu j) 149 [.cell 4 240] τok func223 ?_;refine aj ?_;unfold gf
 generalize b3:headT x=h at *
 generalize b4:argsT x=l at *
 have e3:=aq ndP (row h);refine aM 0 (aN wh) ?_;refine ae (λO=>?_) (λO=>?_)
 ·have O:h.n.op=5:=O
  rw[KX O]at d hr;obtain⟨k2,f0,f1⟩:=eV w (.inr O);obtain⟨r1,r2,r3⟩:=nW w.ok (.inr O);have hr:=of_decide_eq_true hr;obtain⟨y,E,_⟩:=az (l:=l) (k:=0);rw[QK,E]at d;have a2:=JQ E;have d:(bh (kidD h 1) y 0).bind (λs=>aP s (l.drop 1))=j:=d;have R:=nX (x:=kidD h 1) (u:=y) (v:=0) (N:=(cx.length:Int)) (f1.mono Uo) (K y a2) Uo Uo;refine af (endP w (a:=[h.n]) (y:=kidD h 0) (q:=row (kidD h 1)) (r1) f0.ok rfl) ?_;have X:=KG List.length r2;simp only[JK,JV]at X;refine bO (1+(row (kidD h 0)).length) (row h).length ?_ (cT _) (h1:=rfl) (h3:=Uo) (h4:=Uo);rw[dL (a:=h.n::row (kidD h 0)) (y:=kidD h 1) (q:=[]) (by rw[JD];exact r2) (by rw[JV];omega) (by rw[JV];omega)];refine vk ?_;refine aA 0 (x:=row y) (by rw[JX,E];rfl) ?_;cases T:bh (kidD h 1) y 0 with
  |error e=>
   have he:=gY T;rw[T]at R d;have d:.error e=j:=d;subst d;refine af R ?_;refine bV (jy _ (show e≠0 by omega)) ?_;refine sf [false,false,false,true,true] ?_;refine bO 1 l.length ?_ (zD _);refine vk ?_;exact rfl
  |ok u=>
  rw[T]at R d;refine af R ?_;refine af (fM _) ?_;have d:aP u (l.drop 1)=j:=d;have F:=gQ D (f1.mono Uo) (K y a2) Uo Uo (Int.le_refl 0) UO T;have o:=qn D (x:=u) (ys:=l.drop 1) F (λy E=>(K y (List.mem_of_mem_drop E)).mono Uo) Uk;have a5:VX prog 242 [ah (row u),.sl ((((l.map row).map rP).take l.length).drop 1)] (match aP u (l.drop 1)with
   | .ok z=>.ok (gf z)
   | .error e=>.error (fd e)):=by
   rw[JG Ud,<- List.map_drop,<- List.map_drop];exact o
  replace o:=a5
  refine bO 1 l.length ?_ (zD _);cases C:aP u (l.drop 1)with
  |error e=>
   rw[C]at o d;have d:.error e=j:=d;subst d;refine bV o ?_;refine gW ?_;refine vk ?_;exact rfl
  |ok z=>
   rw[C]at o d;have d:.ok z=j:=d;subst d;refine af o ?_;exact kP9
 have O:¬ h.n.op=5:=O;rw[KY O]at d hr;refine ae (λV=>?_) (λV=>?_)
 ·have V:h.n.op=7:=V
  rw[KX V]at d;obtain⟨k3,f0,f1,f2⟩:=o9 w V;obtain⟨_,_,_,r1,r2,r3⟩:=ql w.ok V;have X:=KG List.length r3;simp only[JK,JV]at X;have d:(bh (kidD h 2) (kidD h 1) 0).bind (λs=>aP s l)=j:=d;have R:=nX (x:=kidD h 2) (u:=kidD h 1) (v:=0) (N:=(cx.length:Int)) (f2.mono Uo) f1 Uo Uo;refine af (endP w (a:=[h.n]) (y:=kidD h 0) (q:=row (kidD h 1)++row (kidD h 2)) r1 f0.ok rfl) ?_;refine af (endP w (a:=h.n::row (kidD h 0)) (y:=kidD h 1) (q:=row (kidD h 2)) r2 f1.ok Uk) ?_;refine bO ((h.n::row (kidD h 0)).length+(row (kidD h 1)).length) (row h).length ?_ (cT _) (h1:=rfl) (h3:=by rw[JV];omega) (h4:=Uo);rw[dL (a:=h.n::(row (kidD h 0)++row (kidD h 1))) (y:=kidD h 2) (q:=[]) (by rw[JD];exact r3) (by rw[JV,JV,JK];omega) (by rw[JV,JK];omega)];refine bO (1+(row (kidD h 0)).length) ((h.n::row (kidD h 0)).length+(row (kidD h 1)).length) ?_ (cT _) (h1:=rfl) (h3:=by rw[JV];omega) (h4:=by rw[JV];omega);rw[dL r2 (by rw[JV];omega) rfl];cases T:bh (kidD h 2) (kidD h 1) 0 with
  |error e=>
   have he:=gY T;rw[T]at R d;have d:.error e=j:=d;subst d;refine af R ?_;refine bV (jy _ (show e≠0 by omega)) ?_;refine sf [false,false,true,true] ?_
   skip
   refine vk ?_;exact rfl
  |ok u=>
  rw[T]at R d;refine af R ?_;refine af (fM _) ?_;have d:aP u l=j:=d;have F:=gQ D (f2.mono Uo) f1 Uo Uo (Int.le_refl 0) UO T;have o:=qn D (x:=u) (ys:=l) F (λy E=>(K y E).mono Uo) Uo;cases C:aP u l with
  |error e=>
   rw[C]at o d;have d:.error e=j:=d;subst d;refine bV o ?_;refine gW ?_;refine vk ?_;exact rfl
  |ok z=>
   rw[C]at o d;have d:.ok z=j:=d;subst d;refine af o ?_;exact kP9
 have V:¬ h.n.op=7:=V;rw[KY V]at d;refine ae (λI=>?_) (λI=>?_)
 ·have I:h.n.op=1:=I
  rw[KX I]at d;rw[KY Uo,KX I]at hr;obtain⟨n0,n1⟩:=a1 I;have Y:=nH n0 n1;obtain⟨⟨ty,vv⟩,a6⟩:∃q,fR cx h.n.a=q:=⟨_,rfl⟩
  rw[a6]at Y d hr;have a7:(cx.map aE)[cx.length-1-h.n.a.toNat]?=some (row ty,qA' vv):=by rw[JX,Y];rfl
  cases vv with
  |none=>cases hr
  |some v=>
   have fv:=(a4 _ _ Y).2 v rfl;have fl:=fv.lift D (b:=h.n.a+1) Uo Uo Uo;have d:aP (aG v (h.n.a+1) 0) l=j:=d;have o:=qn D (x:=aG v (h.n.a+1) 0) (ys:=l) (N:=(cx.length:Int)) (fl.mono Uo) K Uo;refine vi ?_;refine vi ?_;refine vm (p:=bdP) (cx.length-1-h.n.a.toNat) a7 ?_ Uo;refine vi ?_;refine af (kO fv Uo Uo) ?_;refine af (fM _) ?_;cases C:aP (aG v (h.n.a+1) 0) l with
   |error e=>
    rw[C]at o d;have d:.error e=j:=d;subst d;refine bV o ?_;refine gW ?_;refine vk ?_;exact rfl
   |ok z=>
    rw[C]at o d;have d:.ok z=j:=d;subst d;refine af o ?_;exact kP9
 have I:¬ h.n.op=1:=I;rw[KY I]at d;refine ae (λW=>?_) (λW=>?_)
 ·have W:h.n.op=8:=W
  rw[KX W]at d;obtain⟨i,e,ty,bo,hi,he,Z,hD⟩:=hB.dfn hq W;rw[Z,hD.body,iY hD.fb.ok]at d;have fb:Ft (QB B) (cx.length:Int) bo:=(hD.fb.wk λm hm=>my (Nat.le_of_lt (aL he)) hm).mono Uo;have o:=qn D (x:=bo) (ys:=l) fb K Uo;rw[<- hD.body]at o;refine cS i he ?_;cases C:aP bo l with
  |error e=>
   rw[C]at o d;have d:.error e=j:=d;subst d;refine bV o ?_;refine gW ?_;refine vk ?_;exact rfl
  |ok z=>
   rw[C]at o d;have d:.ok z=j:=d;subst d;refine af o ?_;exact kP9
 have W:¬ h.n.op=8:=W;rw[KY W]at d;rw[KY Uo,KY I]at hr;refine ae (λH=>?_) (λH=>?_)
 ·have H:h.n.op=11:=H
  rw[KX H]at d hr;obtain⟨hk,b5,_,_⟩:=gP w.ok H;have fk:=w.kidN 1 (by rw[hk];omega) (b:=0) (by simp[kb,bi,H]);rw[Int.add_zero]at fk;obtain⟨c1,c2,c3,c4,c5⟩:=DE hB fk hr;obtain⟨i,e,s',ps,qi,hi,b6,he,Z,hF⟩:=hB.fam (kA hq (.inr H)) (KJ _);have a8:fI B h.n.a=e.params.length:=by unfold fI;rw[Z]
  have e4:=aq (λt=>[ah t]) e.params;have b7:=fk.nargs;have b8:=fk.len;have fb:=w.kidN (2+(headT (kidD h 1)).n.b.toNat) (by rw[hk];omega) (b:=0) (by simp[kb,bi,H]);rw[Int.add_zero]at fb;have eL:=aq rP ((argsT (kidD h 1)).map row);have b9:=aq (λt=>[ah t]) ((argsT (kidD h 1)).map row);have b':=aq row (argsT (kidD h 1));have a3:∀y∈(argsT (kidD h 1)).drop e.params.length,Ft (QB B) (cx.length:Int) y:=λy E=>fk.args y (List.mem_of_mem_drop E);rw[a8]at d c5;have a9:=LU (L:=(((argsT (kidD h 1)).map row).map rP|>.take (argsT (kidD h 1)).length).drop e.params.length) (M:=(l.map row).map rP) (ys:=(argsT (kidD h 1)).drop e.params.length) (zs:=l) (by rw[JG Uo,<- List.map_drop,<- List.map_drop]) rfl a3 K Uk Uo;have o:=qn D (x:=kidD h (2+(headT (kidD h 1)).n.b.toNat)) (ys:=(argsT (kidD h 1)).drop e.params.length++l) fb (λy E=>(List.mem_append.1 E).elim (a3 y) (K y)) Uk;refine af (iJ w) ?_;refine aA 1 (aK wh (by rw[hk];omega)) ?_;refine af (qm fk) ?_;refine aM 0 (aN (aC fk.head)) ?_;refine vi ?_;refine aA (2+(headT (kidD h 1)).n.b.toNat) (aK wh (by rw[hk];omega)) ?_;refine cS i he ?_;refine bO e.params.length (argsT (kidD h 1)).length ?_ (zD _);refine af a9 ?_;cases C:aP (kidD h (2+(headT (kidD h 1)).n.b.toNat)) ((argsT (kidD h 1)).drop e.params.length++l)with
  |error e=>
   rw[C]at o d;have d:.error e=j:=d;subst d;refine bV o ?_;refine gW ?_;refine vk ?_;exact rfl
  |ok z=>
   rw[C]at o d;have d:.ok z=j:=d;subst d;refine af o ?_;exact kP9
 have H:¬ h.n.op=11:=H;rw[KY H]at d hr;have g6:h.n.op=12:=by
  by_cases g6:h.n.op=12
  ·exact g6
  ·rw[KY g6]at hr
   cases hr
 have hu:=LV D w g6 Uo Uo;cases a0:lB h with
 |error e=>
  rw[a0]at hu d;have d:.error e=j:=d;subst d;refine bV hu ?_;refine sf [false,false,true,true] ?_;refine vk ?_;exact rfl
 |ok u=>
  rw[a0]at hu d;have d:aP u l=j:=d;have F:=x7 D w g6 Uo Uo a0;have o:=qn D (x:=u) (ys:=l) F K Uo;refine af hu ?_;cases C:aP u l with
  |error e=>
   rw[C]at o d;have d:.error e=j:=d;subst d;refine bV o ?_;refine gW ?_;refine vk ?_;exact rfl
  |ok z=>
   rw[C]at o d;have d:.ok z=j:=d;subst d;refine af o ?_;exact kP9
end
def E6(B:ak)(cx:Ctx)(r:Except Int (Tr×Nat)):Except (List PanicEntry) (List PV×PV):=match r with
 | .ok q=>.ok (iK B cx q.2,gf q.1)
 | .error e=>.error (fd e)
section
variable{B:ak}{cx:Ctx}
theorem LW(I:GoodB B)(s:CxOk B cx)(w:cx.length<=90000):∀(G:Nat) (x:Tr) (room:Int) (n:Nat),Ft (QB B) (cx.length:Int) x ->len x<=room ->room<=4096 ->n<=1000000 ->n*5000+(row x).length<=G ->
  ju prog 199 265 (iK B cx n) [gf x,pI room] (E6 B cx (cz B cx G x room n)):=by
 intro G
 induction G using Nat.strongRecOn with
 |_ G ih=>
 intro x room n hx hl hr hn hG;generalize i:cz B cx G x room n=h;refine aX (r:=E6 B cx h) 53 [.cell 6 240] τok func199 ?_;refine aj<|aB τok (σ:=Nat×Tr×Nat) [(0,_),(2,_),(4,_),(6,_)] [(6,_)] (λ_=>[]) (λq=>[(0,.st 1 265 ((iK B cx q.2.2).map .p)),(4,.st 0 240 [.p (ah (row (headT q.2.1))),.p (bG ((argsT q.2.1).map row))])]) (λq=>q.1<=G/\q.2.2*5000+(row q.2.1).length<=q.1/\q.2.2<=n/\cz B cx q.1 q.2.1 room q.2.2=h/\Ft (QB B) (cx.length:Int) q.2.1/\len q.2.1<=room) (λq=>q.1) (G,x,n) ⟨KJ _,hG,KJ _,i,hx,hl⟩ ?_
 clear i
 rintro⟨g,y,m⟩ ⟨T,V,W,b,l,C⟩;simp only at T V W b l C;have a2:=aR y;obtain⟨D,rfl⟩:∃D,g=D+1:=⟨g-1,Uo⟩
 simp only[cz]at b;refine VCode.blk<|dd τok (σ:=Tr×Nat) [(0,_),(2,_),(4,_),(6,_)] [(6,_)] (λ_=>[]) (λq=>[(0,.st 1 265 ((iK B cx q.2).map .p)),(4,.st 0 240 [.p (ah (row (headT q.1))),.p (bG ((argsT q.1).map row))])]) (λq=>jb B cx (cz B cx D) room q=h/\q.2<=m/\Ft (QB B) (cx.length:Int) q.1/\len q.1<=room) ?_ ?_
 ·have hP:=LL l
  cases o:cE y with
  |none=>
   simp only[ja,o]at b;rw[o]at hP;refine af hP ?_;exact au (y,m) ⟨b,KJ _,l,C⟩
  |some p=>
   simp only[ja,o]at b;rw[o]at hP;obtain⟨E,a3⟩:=kB l o;have eP:=aq ndP (row p);have F:=C;unfold len at F;have K:=ih D Uo p (room-len y+len p) m E (by unfold len;omega) (by unfold len;omega) Uo Uo;refine af hP ?_;refine af (qm E) ?_;refine af (E4 l) ?_;refine vi ?_ (by simp only[len];omega) (by simp only[len];omega);refine vi ?_ (by simp only[len];omega) (by simp only[len];omega);have eR:room-len y+((((row p).map ndP).length:Nat):Int)=room-len y+len p:=by unfold len;omega
   rw[eR];cases X:cz B cx D p (room-len y+len p) m with
   |error e=>
    rw[X]at K b;have b:.error e=h:=b;subst b;refine cH K ?_;refine gW ?_;refine vk ?_;exact rfl
   |ok q=>
    obtain⟨q1,q2⟩:=q;rw[X]at K b;obtain⟨f1,l1,l2⟩:=pP I s w D p _ m q1 q2 E (by unfold len;omega) (by unfold len;omega) X;have a4:=rt (p:=q1) l o;unfold len at l1;have H:(row (bP y q1)).length<=4096:=Uo
    have Y:=(x8 (qk B) l f1 o H).1;refine ay K ?_;refine af (E3 f1) ?_;refine af (LN (qk B) l f1 o H) ?_;refine vk ?_;exact au (bP y q1,q2) ⟨b,l2,Y,by simp only[len];omega⟩
 ·rintro⟨z,k⟩ ⟨b,Z,L,a0⟩
  simp only at b Z L a0;have O:=LP (fu:=(k:Int)) I Uo L;unfold jb at b;simp only at b;refine aj ?_;cases d:cD B cx z with
  |false=>
   rw[d,KY UO]at b;rw[d]at O;subst b;refine ay O ?_;exact eP9
  |true=>
   rw[d,KX rfl]at b;rw[d]at O;refine ay O ?_;refine ae (λg=>?_) (λg=>?_)
   ·have g:(k:Int)=0:=g
    rw[KX Uo]at b;subst b;exact sr (Dx _)<|rfl
   ·have g:¬ (k:Int)=0:=g
    rw[KY Uo]at b;have R:=zE (fu:=(k:Int)) I s w L d;cases ho:gR B cx z with
    |error e=>
     rw[ho]at R b;have b:.error e=h:=b;subst b;refine cH R ?_;exact rfl
    |ok v=>
     rw[ho]at R b;have fv:=uB I s w L d ho;have hW:=LK fv room;refine ay R ?_
     by_cases hb:room<len v
     ·simp only[KX hb]at b hW
      subst b;refine bV hW ?_;exact rfl
     ·simp only[KY hb]at b hW
      obtain⟨j,rfl⟩:∃j,k=j+1:=⟨k-1,Uo⟩
      rw[Nat.add_sub_cancel]at b;have a1:len v<=room:=Uo
      unfold len at a1;refine af hW ?_;refine vi ?_;exact au (D,v,j) ⟨Us,Us,Us,b,fv,Us⟩ (y':=⟨KG (λn:Int=>some (SE.st 1 _ ((iK B cx n).map .p))) Us,rfl,trivial⟩)
end
def bK(f:Int):Nat:=(min (max f 0) 100000).toNat
@[irreducible] def GW:Nat:=600000000
theorem Ib':600000000<=GW:=by unfold GW;exact KJ _
def eg(B:ak)(cx:Ctx)(x:Tr)(fuel:Int):Except Int (Tr×Nat):=cz B cx GW x 4096 (bK fuel)
section
variable{B:ak}{cx:Ctx}
theorem E7{x:Tr}{er:Int}(h:gR B cx x= .error er):er=9:=by
 have j:∀{b u:Tr} {v e:Int},bh b u v= .error e ->e=9:=λ{b u v e} h=>by
  unfold bh at h;split at h
  ·injection h with h;exact h.symm
  ·cases h
 have d:∀{b:Tr} {l:List Tr} {e:Int},aP b l= .error e ->e=9:=λ{b l e} h=>by
  unfold aP at h;split at h
  ·injection h with h;exact h.symm
  ·cases h
 have k:∀{m:Except Int Tr} {l:List Tr} {e:Int},(∀e,m= .error e ->e=9) ->(m.bind λs=>aP s l)= .error e ->e=9:=λ{m l e} q h=>by
  cases m with
  |error r=>injection h with h;rw[<- h];exact q _ rfl
  |ok s=>exact d h
 have w:∀(f:Tr) (i:Nat) (b:Tr) (e:Int),jP f i b= .error e ->e=9:=by
  intro f i
  induction i with
  |zero=>intro b e h;cases h
  |succ i z=>
   intro b e h;simp only[jP]at h;cases o:bh b (aG (fixAt f i) i 0) 0 with
   |error r=>rw[o]at h;injection h with h;rw[<- h];exact j o
   |ok s=>rw[o]at h;exact z _ _ h
 unfold gR at h;simp only at h;split at h
 ·exact k (λe=>j) h
 split at h
 ·exact k (λe=>j) h
 split at h
 ·exact d h
 split at h
 ·exact d h
 split at h
 ·exact d h
 ·exact k (λe=>w _ _ _ _) h
theorem whnf_er:∀(g:Nat) (x:Tr) (room:Int) (n:Nat) (er:Int),cz B cx g x room n= .error er ->er=9 \/er=10
 |0,x,room,n,er,h=>by injection h with h;exact .inr h.symm
 |g+1,x,room,n,er,h=>by
  simp only[cz]at h;have d:∀q,jb B cx (cz B cx g) room q= .error er ->er=9 \/er=10:=λq h=>by
   unfold jb at h;split at h
   ·split at h
    ·injection h with h;exact .inr h.symm
    ·cases i:gR B cx q.1 with
     |error e=>rw[i]at h;injection h with h;rw[<- h];exact .inl (E7 i)
     |ok z=>
      rw[i]at h;simp only at h;split at h
      ·injection h with h;exact .inl h.symm
      ·exact whnf_er g _ _ _ _ h
   ·cases h
  cases b:ja (cz B cx g) x room n with
  |error e=>
   rw[b]at h;injection h with h
   subst h;unfold ja at b;split at b
   ·cases b
   ·split at b
    ·rename_i j
     injection b with b
     subst b;exact whnf_er g _ _ _ _ j
    ·cases b
  |ok q=>rw[b]at h;exact d q h
def E8(X:List Nat)(w:World)(r:Except Int (Tr×Nat))(e:Ending)(w':World):Prop:=
 (match r with
  | .ok q=>∃u,e= .returned (.tuple #[u,.int .i64 (q.2:Int),.int .i64 0])/\TmV (Im X w') q.1 u
  | .error er=>e= .returned (.tuple #[.slice none 0 0,.int .i64 0,.int .i64 er]))/\Kp [] w w'
end
end Go.Q
namespace Go.Q
open Go.Shelf Go.RowKit Go.Maps Go.Sort
def nv':Go.Shelf.Ren:=⟨λ|7=>167|10=>196|n=>n,λ|23=>212|26=>3|3=>3|28=>216|0=>0|27=>215|33=>196|4=>4|n=>n,λ|n=>n⟩
theorem EP':Go.Proofs.SlLaysZI.n7 prog nv':={
 mixed:=UD
 f7:=⟨Tryz.f167.name,UO,Tryz.func167.trans (KG some UD)⟩
 f10:=⟨Tryz.f196.name,UO,Tryz.func196.trans (KG some UD)⟩
 t0:=underlying0
 a0:=Tryz.isAgg0
 z0:=Tryz.sizeOf0
 v0:=Tryz.zeroValue0
 t4:=underlying4
 a4:=Tryz.isAgg4
 z4:=Tryz.sizeOf4
 v4:=Tryz.zeroValue4
 t23:=underlying212
 a23:=Tryz.isAgg212
 z23:=Tryz.sizeOf212
 v23:=Tryz.zeroValue212
 t26:=underlying3
 a26:=Tryz.isAgg3
 z26:=Tryz.sizeOf3
 v26:=Tryz.zeroValue3
 t27:=underlying215
 a27:=Tryz.isAgg215
 z27:=Tryz.sizeOf215
 v27:=Tryz.zeroValue215
 t28:=underlying216
 a28:=Tryz.isAgg216
 z28:=Tryz.sizeOf216
 v28:=Tryz.zeroValue216
 t33:=underlying196
 a33:=Tryz.isAgg196
 z33:=Tryz.sizeOf196
 v33:=Tryz.zeroValue196}
def kg':Go.Shelf.Ren:=⟨λ|6=>166|8=>194|9=>195|11=>215|13=>217|12=>216|23=>238|24=>239|14=>229|15=>230|16=>231|17=>232|18=>233|19=>234|20=>235|21=>236|22=>237|25=>252|26=>253|27=>254|28=>255|29=>256|30=>257|31=>263|n=>n,λ|26=>3|28=>216|24=>124|0=>0|3=>3|37=>263|48=>286|50=>288|4=>4|40=>280|39=>279|45=>173|5=>5|9=>9|51=>296|55=>300|57=>305|58=>159|33=>196|n=>n,λ|n=>n⟩
theorem Bv':Go.Proofs.SlLaysZI.n6 prog kg':={
 mixed:=UD
 f6:=⟨Tryz.f166.name,UO,Tryz.func166.trans (KG some UD)⟩
 f8:=⟨Tryz.f194.name,UO,Tryz.func194.trans (KG some UD)⟩
 f11:=⟨Tryz.f215.name,UO,Tryz.func215.trans (KG some UD)⟩
 t0:=underlying0
 a0:=Tryz.isAgg0
 z0:=Tryz.sizeOf0
 v0:=Tryz.zeroValue0
 t24:=underlying124
 a24:=Tryz.isAgg124
 z24:=Tryz.sizeOf124
 v24:=Tryz.zeroValue124
 t26:=underlying3
 a26:=Tryz.isAgg3
 z26:=Tryz.sizeOf3
 v26:=Tryz.zeroValue3
 t28:=underlying216
 a28:=Tryz.isAgg216
 z28:=Tryz.sizeOf216
 v28:=Tryz.zeroValue216
 i26:=by kernel_rfl}
def uB':Go.Shelf.Ren:=⟨λ|5=>195|8=>217|7=>216|19=>238|20=>239|10=>229|11=>230|12=>231|13=>232|14=>233|15=>234|16=>235|17=>236|18=>237|30=>252|31=>253|32=>254|33=>255|34=>256|35=>257|40=>263|n=>n,λ|23=>124|25=>3|3=>3|32=>263|22=>124|0=>0|44=>286|46=>288|4=>4|36=>280|35=>279|41=>173|5=>5|9=>9|53=>296|57=>300|63=>305|64=>159|n=>n,λ|n=>n⟩
theorem EQ':Go.Proofs.SlLaysM.n5 prog uB':={
 mixed:=UD
 f5:=⟨Tryz.f195.name,UO,Tryz.func195.trans (KG some UD)⟩
 f7:=⟨Tryz.f216.name,UO,Tryz.func216.trans (KG some UD)⟩
 f8:=Tryz.func217.trans (KG some UD)
 f10:=⟨Tryz.f229.name,UO,Tryz.func229.trans (KG some UD)⟩
 f11:=⟨Tryz.f230.name,UO,Tryz.func230.trans (KG some UD)⟩
 f12:=⟨Tryz.f231.name,UO,Tryz.func231.trans (KG some UD)⟩
 f13:=⟨Tryz.f232.name,UO,Tryz.func232.trans (KG some UD)⟩
 f14:=⟨Tryz.f233.name,UO,Tryz.func233.trans (KG some UD)⟩
 f15:=⟨Tryz.f234.name,UO,Tryz.func234.trans (KG some UD)⟩
 f16:=⟨Tryz.f235.name,UO,Tryz.func235.trans (KG some UD)⟩
 f17:=⟨Tryz.f236.name,UO,Tryz.func236.trans (KG some UD)⟩
 f18:=⟨Tryz.f237.name,UO,Tryz.func237.trans (KG some UD)⟩
 f19:=Tryz.func238.trans (KG some UD)
 f20:=Tryz.func239.trans (KG some UD)
 f30:=⟨Tryz.f252.name,UO,Tryz.func252.trans (KG some UD)⟩
 f31:=Tryz.func253.trans (KG some UD)
 f32:=Tryz.func254.trans (KG some UD)
 f33:=⟨Tryz.f255.name,UO,Tryz.func255.trans (KG some UD)⟩
 f34:=⟨Tryz.f256.name,UO,Tryz.func256.trans (KG some UD)⟩
 f35:=⟨Tryz.f257.name,UO,Tryz.func257.trans (KG some UD)⟩
 f40:=⟨Tryz.f263.name,UO,Tryz.func263.trans (KG some UD)⟩
 t0:=underlying0
 a0:=Tryz.isAgg0
 z0:=Tryz.sizeOf0
 v0:=Tryz.zeroValue0
 t3:=underlying3
 a3:=Tryz.isAgg3
 z3:=Tryz.sizeOf3
 v3:=Tryz.zeroValue3
 t4:=underlying4
 a4:=Tryz.isAgg4
 z4:=Tryz.sizeOf4
 v4:=Tryz.zeroValue4
 t5:=underlying5
 a5:=Tryz.isAgg5
 z5:=Tryz.sizeOf5
 v5:=Tryz.zeroValue5
 t9:=underlying9
 a9:=Tryz.isAgg9
 z9:=Tryz.sizeOf9
 v9:=Tryz.zeroValue9
 t22:=underlying124
 a22:=Tryz.isAgg124
 z22:=Tryz.sizeOf124
 v22:=Tryz.zeroValue124
 t23:=underlying124
 a23:=Tryz.isAgg124
 z23:=Tryz.sizeOf124
 v23:=Tryz.zeroValue124
 t25:=underlying3
 a25:=Tryz.isAgg3
 z25:=Tryz.sizeOf3
 v25:=Tryz.zeroValue3
 t32:=underlying263
 a32:=Tryz.isAgg263
 z32:=Tryz.sizeOf263
 v32:=Tryz.zeroValue263
 t35:=underlying279
 a35:=Tryz.isAgg279
 z35:=Tryz.sizeOf279
 v35:=Tryz.zeroValue279
 t36:=underlying280
 a36:=Tryz.isAgg280
 z36:=Tryz.sizeOf280
 v36:=Tryz.zeroValue280
 t41:=underlying173
 a41:=Tryz.isAgg173
 z41:=Tryz.sizeOf173
 v41:=Tryz.zeroValue173
 t44:=underlying286
 a44:=Tryz.isAgg286
 z44:=Tryz.sizeOf286
 v44:=Tryz.zeroValue286
 t46:=underlying288
 a46:=Tryz.isAgg288
 z46:=Tryz.sizeOf288
 v46:=Tryz.zeroValue288
 t53:=underlying296
 a53:=Tryz.isAgg296
 z53:=Tryz.sizeOf296
 v53:=Tryz.zeroValue296
 t57:=underlying300
 a57:=Tryz.isAgg300
 z57:=Tryz.sizeOf300
 v57:=Tryz.zeroValue300
 t63:=underlying305
 a63:=Tryz.isAgg305
 z63:=Tryz.sizeOf305
 v63:=Tryz.zeroValue305
 t64:=underlying159
 a64:=Tryz.isAgg159
 z64:=Tryz.sizeOf159
 v64:=Tryz.zeroValue159}
theorem LX(m:Nat):AnyZI.SortsIn prog kg' Fence.wide m:=
 ⟨λblk e b i W j d h=>callsIn_wide.2 (AnyM.slices_Sort_int EQ' blk e b i W j d h),
 λp b W=>callsIn_wide.2 (AnyM.slices_Sort_int_none EQ' p b W)⟩
theorem LY{w w':World}(h:Below w.heap.size w w'):Kp [] w w':=⟨h.os,h.tape,h.output,h.size,λb d _=>h.block b d⟩
theorem LZ(b:Nat)(w:World):CC 167 #[.map (some b)] w (λe w'=>e= .returned (.func (.func 196) #[] #[.pointer (some ⟨w.heap.size,0,none⟩)])/\w'=w.alloc (.cells #[.map (some b)] 212)):=
 ⟨⟨_,func167,rfl,UO⟩,callsIn_wide.1 (AnyZI.keys_in EP' Fence.wide 5 trivial rfl (some b) w)⟩
theorem L0{H:Type}{b n:Nat}{D:DataW H}{R:Value ->Option (DataW H×List MemPlace)}{w:World}(h:w.ownsMap prog 3 R b n D)(l:Maps.size D<=maxLen)(d:Maps.size D*8<=140737488355328):
  CC 166 #[.func (.func 196) #[] #[.pointer (some ⟨w.heap.size,0,none⟩)]] (w.alloc (.cells #[.map (some b)] 212)) (λe w'=>∃(v:Value) (j:List Int),e= .returned v/\j.Perm (intKeys D)/\
   w'.ownsRow (w.heap.size+1) 3 1 v j.length ((j.mergeSort (λx y=>decide (x<=y))).map (Value.int .i64))/\Kp [] (w.alloc (.cells #[.map (some b)] 212)) w'):=by
 refine oF func166 ?_;have q:=h.lt;have o:SeqGives Fence.wide 2 prog 196 #[.pointer (some ⟨w.heap.size,0,none⟩)] encZ (λj=>j.Perm (intKeys D)) (Maps.size D) (w.alloc (.cells #[.map (some b)] 212)):=
  AnyZI.keys_gives (ρ:=nv') {EP' with} Fence.wide _ trivial rfl Uo w.heap.size b n D _ Ud Ud (by
   obtain⟨z,k,r,Ft,C,E⟩:=h;exact⟨z,k,(Below.heap_alloc _ _ b q).trans r,Ft,C,E⟩)
 have s:=AnyZI.sorted_in Bv' Fence.wide 5 trivial trivial trivial trivial rfl Uo (LX _) (enters_of func195 UD rfl) 196 #[.pointer (some ⟨w.heap.size,0,none⟩)] trivial (enters_of func196 UD rfl) _ _ l d _ o
 change CallsIn _ _ prog 166 _ _ _ at s
 refine(callsIn_wide.1 s).mono ?_;rintro e w' ⟨v,j,rfl,F,i,_,r⟩;rw[World.size_alloc]at i;exact⟨v,j,rfl,F,i,LY r⟩
end Go.Q
namespace Go.Q
def kP(f:Int ->Option Int)(k v:Int):Int ->Option Int:=λx=>if x=k then some v else f x
def upd(f:Int ->Option Int)(x:Atom):Int ->Option Int:=match f x.var with
 |none=>kP f x.var x.add
 |some v=>if v<x.add then kP f x.var x.add else f
def mapF(l:List Atom):Int ->Option Int:=l.foldl upd (λ_=>none)
theorem vB(l:List Atom)(x:Atom):mapF (l++[x])=upd (mapF l) x:=by simp[mapF]
theorem zF{f:Int ->Option Int}{x:Atom}{k:Int}(h:k≠x.var):upd f x k=f k:=by
 unfold upd;cases b:f x.var with
 |none=>simp[kP,h]
 |some v=>
  simp only;split
  ·simp[kP,h]
  ·rfl
theorem vC(f:Int ->Option Int)(x:Atom):upd f x x.var=some (match f x.var with|none=>x.add|some v=>if v<x.add then x.add else v):=by
 unfold upd;cases b:f x.var with
 |none=>simp[kP]
 |some v=>
  simp only;split
  ·simp[kP]
  ·exact b
theorem fold_from{k v:Int}:∀(l:List Atom) (f:Int ->Option Int),l.foldl upd f k=some v ->f k=some v \/∃y∈l,y.var=k/\y.add=v
 |[],f,h=>.inl h
 |x::l,f,h=>by
  rcases fold_from l (upd f x) h with h1|⟨y,e,h1⟩
  ·by_cases b:k=x.var
   ·subst b
    rw[vC]at h1;cases d:f x.var with
    |none=>rw[d]at h1;simp at h1;exact .inr ⟨x,Ud,rfl,h1⟩
    |some u=>
     rw[d]at h1;simp only at h1;split at h1
     ·exact .inr ⟨x,Ud,rfl,by simpa using h1⟩
     ·exact .inl (by simpa using h1)
   ·rw[zF b]at h1
    exact .inl h1
  ·exact .inr ⟨y,by simp[e],h1⟩
theorem E9{k:Int}:∀(l:List Atom) (f:Int ->Option Int) (u:Int),f k=some u ->∃v,l.foldl upd f k=some v/\u<=v
 |[],f,u,h=>⟨u,h,Int.le_refl _⟩
 |x::l,f,u,h=>by
  have:∃b,upd f x k=some b/\u<=b:=by
   by_cases d:k=x.var
   ·subst d
    rw[vC,h];simp only;split
    ·exact⟨x.add,rfl,Uo⟩
    ·exact⟨u,rfl,Int.le_refl _⟩
   ·exact⟨u,by rw[zF d];exact h,Int.le_refl _⟩
  obtain⟨b,e,j⟩:=this;obtain⟨v,i,o⟩:=E9 l (upd f x) b e;exact⟨v,i,Uo⟩
theorem ra':∀(l:List Atom) (f:Int ->Option Int) (y:Atom),y∈l ->∃v,l.foldl upd f y.var=some v/\y.add<=v
 |x::l,f,y,h=>by
  rcases List.mem_cons.1 h with rfl|h
  ·obtain⟨v,h1,h2⟩:=E9 (k:=y.var) l (upd f y) _ (vC f y)
   refine⟨v,h1,?_⟩;cases b:f y.var with
   |none=>rw[b]at h2;exact h2
   |some u=>
    rw[b]at h2;simp only at h2;split at h2<;>omega
  ·exact ra' l (upd f x) y h
theorem vD{l:List Atom}{k v:Int}(h:mapF l k=some v):∃y∈l,y.var=k/\y.add=v:=by
 rcases fold_from l _ h with h|h
 ·cases h
 ·exact h
theorem L1{l:List Atom}{y:Atom}(h:y∈l):∃v,mapF l y.var=some v/\y.add<=v:=ra' l _ y h
theorem L2{l:List Atom}{k:Int}(h:∀y∈l,y.var≠k):mapF l k=none:=by
 cases b:mapF l k with
 |none=>rfl
 |some v=>obtain⟨y,d,e,_⟩:=vD b;exact absurd e (h y d)
theorem Fa{vars:Int}:∀{l:List Atom} {b:Int},fQ vars l b=true ->(∀x∈l,b<x.var)/\l.Pairwise (λx y=>x.var<y.var)
 |[],_,_=>⟨Ud,List.Pairwise.nil⟩
 |x::l,b,h=>by
  simp only[fQ]at h;split at h
  ·cases h
  rename_i e;obtain⟨h1,h2⟩:=Fa h;refine⟨λy d=>?_,List.pairwise_cons.2 ⟨λy d=>h1 y d,h2⟩⟩;rcases List.mem_cons.1 d with rfl|d
  ·omega
  ·have:=h1 y d
   omega
theorem zG{l:List Atom}{vars:Int}(h:cL l vars=true):l.Pairwise (λx y=>x.var<y.var)/\1<=l.length:=by
 unfold cL at h;split at h
 ·cases h
 ·exact⟨(Fa h).2,Uo⟩
def ik(f:Int ->Option Int)(r:List Nat):List Int:=(r.filter λ(v:Nat)=>(f v).isSome).map λ(v:Nat)=>(v:Int)
def maxL(a b:List Atom):List Atom:=(List.range 17).filterMap λ(v:Nat)=>(mapF (a++b) v).map λn=>⟨(v:Int),n⟩
theorem zH(f:Int ->Option Int):∀r:List Nat,(r.filterMap λ(v:Nat)=>(f v).map λn=>(⟨(v:Int),n⟩:Atom)).map Atom.var=ik f r
 |[]=>rfl
 |v::r=>by
  have b:=zH f r;unfold ik at b ⊢;rw[List.filterMap_cons];cases h:f v with
  |none=>simp[h];simpa using b
  |some n=>simp[h];simpa using b
def cI(a b:List Atom):Int:=if cL a 16=false \/cL b 16=false then 19 else if 4<(maxL a b).length then 5 else 0
def dB(a b:List Atom):List Atom:=if cI a b=0 then maxL a b else []
theorem zI(f:Int ->Option Int)(n:Nat):(ik f (List.range n)).Pairwise (· < ·):=by
 unfold ik;refine List.pairwise_map.2 (List.Pairwise.imp (R:=(· < ·)) (λh=>Uo) ((List.pairwise_lt_range (n:=n)).filter _))
theorem L3{f:Int ->Option Int}{n:Nat}(b:∀x v,f x=some v ->0<=x/\x<n)(x:Int):x∈ik f (List.range n)↔(f x).isSome=true:=by
 unfold ik;simp only[List.mem_map,List.mem_filter,List.mem_range];constructor
 ·rintro⟨v,⟨i,d⟩,rfl⟩
  exact d
 ·intro h
  obtain⟨v,e⟩:=Option.isSome_iff_exists.1 h;have:=b x v e;exact⟨x.toNat,⟨Uo,by rw[Int.toNat_of_nonneg this.1];exact h⟩,Int.toNat_of_nonneg this.1⟩
theorem vE{x:Int}(h:I64 x):(Lit.int .i64 x).wf=true:=by
 unfold I64 at h;simp[Lit.wf,IntKind.min,IntKind.max,IntKind.signed,IntKind.bits];omega
def MV(w:World)(b:Nat)(f:Int ->Option Int)(n:Nat):Prop:=∃D:DataW Unit,w.ownsMap prog 3 (plainElem prog 3) b n D/\
 ∀x,I64 x ->Maps.has D (.int .i64 x)=(f x).isSome/\D.atKey (.int .i64 x) (.lit (.int .i64 0))= .lit (.int .i64 ((f x).getD 0))
theorem MV.kp{w w':World}{b n:Nat}{f:Int ->Option Int}{X:List Nat}(h:MV w b f n)(k:Kp X w w')(hb:b ∉ X):MV w' b f n:=by
 obtain⟨D,i,j⟩:=h;have l:=i.lt;obtain⟨o,d,e,Ft,q,r⟩:=i;exact⟨D,⟨o,d,by rw[k.block b l hb];exact e,Ft,q,r⟩,j⟩
theorem MV.lt{w:World}{b n:Nat}{f:Int ->Option Int}(h:MV w b f n):b<w.heap.size:=by
 obtain⟨D,d,_⟩:=h;exact d.lt
theorem MV.made{w:World}{k:Value ->World ->Prop}(d:∀b w',b=w.heap.size ->MV w' b (λ_=>none) 0 ->w'.heap.size=b+1 ->Kp [] w w' ->k (.map (some b)) w'):EvRun prog (Instr.makeMap 212 none) w k:=by
 refine run (show (Instr.makeMap 212 none).run prog w= .ok (.map (some w.heap.size)) (w.alloc (.map #[] 0))from rfl) (d _ _ rfl ⟨.map [],World.ownsMap_made w _ _ _,λx _=>⟨rfl,rfl⟩⟩ Ud (Kp.alloc _ _))
theorem MV.look{w:World}{b n:Nat}{f:Int ->Option Int}(h:MV w b f n){x:Int}(i:I64 x){k:Value ->World ->Prop}(j:k (.tuple #[.int .i64 ((f x).getD 0),.bool (f x).isSome]) w):EvRun prog (Instr.lookup 212 (.map (some b)) (.int .i64 x) true) w k:=by
 obtain⟨D,l,o⟩:=h;obtain⟨v,z,d,q⟩:=l.look_ok (Maps.int_keyed underlying3) underlying212 (Tryz.zeroValue3 w) (plainElem_int underlying3 UO) (Maps.keyOf_int_mk underlying3 (vE i));obtain⟨c,rfl,e,_⟩:=plainElem_int_inv underlying3 q;obtain⟨r,s⟩:=o x i;rw[s]at e;simp at e;rw[r]at d;rw[<- e.1]at d;exact run d j
theorem MV.look1{w:World}{b n:Nat}{f:Int ->Option Int}(h:MV w b f n){x:Int}(e:I64 x){k:Value ->World ->Prop}(j:k (.int .i64 ((f x).getD 0)) w):EvRun prog (Instr.lookup 212 (.map (some b)) (.int .i64 x) false) w k:=by
 obtain⟨D,l,o⟩:=h;obtain⟨c,i,d,_⟩:=l.lookup_int (Maps.int_keyed underlying3) underlying212 underlying3 (Tryz.zeroValue3 w) (Maps.keyOf_int_mk underlying3 (vE e));rw[(o x e).2]at d;simp at d;rw[<- d]at i;exact run i j
theorem MV.put{w:World}{b n:Nat}{f:Int ->Option Int}(h:MV w b f n)(E:n<1000000){x v:Int}(j:I64 x)(l:I64 v){k:World ->Prop}(o:∀w',MV w' b (kP f x v) (n+1) ->Kp [b] w w' ->k w'):EvRunU prog (Instr.mapUpdate 212 (.map (some b)) (.int .i64 x) (.int .i64 v)) w k:=by
 obtain⟨D,i,q⟩:=h;obtain⟨w',r,s,z⟩:=i.update (Maps.int_keyed underlying3) underlying212 (by unfold maxLen;omega) (Maps.keyOf_int_mk underlying3 (vE j)) (plainElem_int underlying3 (vE l));refine tY r (o w' ⟨_,s,λy C=>?_⟩ (by simpa using re z))
 by_cases e:y=x
 ·subst e
  rw[Maps.has_put_same i.isMap (by trivial),Maps.atKey_put_same i.isMap (by trivial)];simp[kP]
 ·have d:(Lit.int .i64 y)≠ .int .i64 x:=by simpa using e
  rw[Maps.has_put_other d,Maps.atKey_put_other d];simp only[kP,KY e];exact q y C
theorem MV.keys{w:World}{b n:Nat}{f:Int ->Option Int}{m:Nat}(h:MV w b f n)(hm:m<=1000)(C:∀x v,f x=some v ->0<=x/\x<m):
  ∃D:DataW Unit,w.ownsMap prog 3 (plainElem prog 3) b n D/\(ik f (List.range m)).Perm (intKeys D)/\Maps.size D=(ik f (List.range m)).length:=by
 obtain⟨D,q,E⟩:=h;obtain⟨F,i,r,_⟩:=q.entries (Maps.int_keyed underlying3);obtain⟨s,j,k⟩:=q.keysOf;obtain rfl:F=s:=by rw[i]at j;simpa using j
 have z:(ik f (List.range m)).Nodup:=(zI f m).imp (λh=>Uo);have e:(ik f (List.range m)).Perm (intKeys D):=by
  rw[i];refine perm_intKeys r (λp e=>?_) z λx=>?_
  ·obtain⟨v,l⟩:=k p e
   obtain⟨x,_,o,_⟩:=Maps.keyOf_i64 underlying3 l;exact⟨x,o⟩
  ·rw[L3 C x,<- i]
   by_cases o:I64 x
   ·rw[(E x o).1]
   ·constructor
    ·intro d
     obtain⟨v,l⟩:=Option.isSome_iff_exists.1 d;have:=C x v l;exact absurd (by unfold I64;omega) o
    ·intro d
     exfalso;rw[i,Maps.has_eq,List.any_eq_true]at d;obtain⟨p,e,d⟩:=d;obtain⟨v,l⟩:=k p e;obtain⟨y,_,H,I⟩:=Maps.keyOf_i64 underlying3 l;rw[H]at d;have:y=x:=by simpa[Lit.sameKey]using d
     subst this;apply o;unfold I64;simp[Lit.wf,IntKind.min,IntKind.max,IntKind.signed,IntKind.bits]at I;omega
 refine⟨D,q,e,?_⟩;rw[e.length_eq,i];simp[Maps.size_eq,intKeys]
theorem L4{f:Int ->Option Int}{m:Nat}{b:List Int}(h:b.Perm (ik f (List.range m))):b.mergeSort (λx y=>decide (x<=y))=ik f (List.range m):=by
 have e:=mergeSort_of_perm_i h;unfold leI at e;rw[e];refine List.mergeSort_of_pairwise (List.Pairwise.imp (λh=>Uk) (zI f m))
def rAt:Rd Atom where
 sz:=2
 den _ cs x:=cs=[.int .i64 x.var,.int .i64 x.add]/\I64 x.var/\I64 x.add
 len:=by rintro _ cs x ⟨rfl,_⟩;rfl
 mono:=by rintro _ _ cs x _ h;exact h
 one:=by rintro _ cs x ⟨rfl,_⟩ u hu;simp at hu;rcases hu with rfl|rfl<;>rfl
theorem Fb{C:Mem}{a:Option Addr}{l:List Atom}(h:Sl rAt C a l){i:Nat}{x:Atom}(hi:l[i]?=some x):∃b o,a=some ⟨b,o,none⟩/\C b (o+i*2) (.int .i64 x.var)/\C b (o+i*2+1) (.int .i64 x.add)/\I64 x.var/\I64 x.add:=by
 obtain⟨b,o,e,j⟩:=h.at (aL hi)
 obtain⟨r,⟨rfl,k,q⟩,d⟩:=j i x hi;exact⟨b,o,e,d 0 _ rfl,d 1 _ rfl,k,q⟩
theorem Sl.atoms{C:Mem}{w:World}{a:Option Addr}{l:List Atom}(h:Sl rAt C a l)(r:Sub C w):Du w.heap.size w.heap a l:=by
 refine⟨?_,λx v=>?_⟩
 ·rcases h.2 with d|⟨b,o,z,D⟩
  ·exact .inl d
  ·rcases Nat.eq_zero_or_pos l.length with d|d
   ·exact .inl d
   have k:∀i j,i<l.length ->j<2 ->Cl w.heap b (o+i*2+j) (.int .i64 (if j=0 then (l.getD i default).var else (l.getD i default).add)):=λi j q E=>by
    obtain⟨I,⟨rfl,_⟩,s⟩:=D i l[i] Ud;have e:l.getD i default=l[i]:=by simp[q]
    rw[e]
    match j,E with
    |0,_=>exact r _ _ _ (s 0 _ rfl)
    |1,_=>exact r _ _ _ (s 1 _ rfl)
   exact .inr ⟨b,o,z,(k 0 0 d Uo).lt,k⟩
 ·obtain⟨i,q⟩:=JH v
  obtain⟨_,_,_,_,_,F,H⟩:=Fb h q;exact⟨F,H⟩
theorem ET':∀(C C':Mem) (cs:List Value) (x:Atom),rAt.den C cs x ->rAt.den C' cs x:=λ_ _ _ _ h=>h
end Go.Q
