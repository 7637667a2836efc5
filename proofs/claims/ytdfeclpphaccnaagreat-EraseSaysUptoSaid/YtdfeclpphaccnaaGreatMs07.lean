import Derived.Test.YtdfeclpphaccnaaGreatMs06
import Derived.Shelf.SlIterI.Nil
import Derived.Shelf.SortM.Plain
import Derived.Shelf.SortM.SortNone
set_option linter.all false
set_option maxRecDepth 100000
set_option maxHeartbeats 4000000
open Go.Proofs Go.Proofs.Tryz Cd Go Go.Wx Lv Tm
namespace Go.Q
theorem sD(t:List Nd)(s:Md)(c a:Nat):gW t s (c+1) a=(endS t s a).bind (gW t s c):=by
 simp only[gW];cases endS t s a<;>rfl
theorem EW{t:List Nd}{n:Nd}{i a:Nat}(h:n.op=12 ->i%2=1)(hi:(i:Int)<cA n)(hb:n.op=12 ->cA n=2*n.b/\0<=n.b):iW t n i a=(endS t .tm a).bind (iW t n (i+1)):=by
 unfold iW
 by_cases d:n.op=12
 ·have:=h d
  rw[KX d,KY Uo]
  congr 1
  funext b
  rw[KX d,KX Uo]
 ·rw[KY d,show (cA n).toNat-i=(cA n).toNat-(i+1)+1 by omega,sD]
  congr 1
  funext b
  rw[KY d]
theorem Li{t:List Nd}{n f:Nd}{i a:Nat}(b:n.op=12)(h:i%2=0)(hi:(i:Int)<cA n)(hb:n.op=12 ->cA n=2*n.b/\0<=n.b)(j:t[a]?=some f)(d:f.op=13)(l:aG f=true):iW t n i a=(endS t .tm (a+1)).bind (iW t n (i+1)):=by
 obtain⟨o,q⟩:=hb b;unfold iW;rw[KX b,KX h,show n.b.toNat-i/2=n.b.toNat-(i+1+1)/2+1 by omega,sD,sj t .fn j (c:=2) (by simp[cnt,d,l]) (λe=>by cases e) (s':=.tm) (λk=>rfl) Uo,sD t .tm 1];cases endS t .tm (a+1)with
 |none=>rfl
 |some e=>
  simp only[Option.bind_some,KX b];rw[KY Uo,sD t .tm 0];cases endS t .tm e<;>rfl
theorem EX{t:List Nd}{n:Nd}{i a:Nat}(b:n.op=12)(h:i%2=0)(hi:(i:Int)<cA n)(hb:n.op=12 ->cA n=2*n.b/\0<=n.b)(d:∀f,t[a]?=some f ->¬ (f.op=13/\aG f=true)):iW t n i a=none:=by
 obtain⟨e,j⟩:=hb b;unfold iW;rw[KX b,KX h,show n.b.toNat-i/2=n.b.toNat-(i+1+1)/2+1 by omega,sD,uG t .fn λf h=>by
  simp only[cnt];rw[KY (d f h)]]
 rfl
theorem Lj(t:List Nd)(a:Nat):PV.sl (((t.map ndP).take (t.map ndP).length).drop a)=ah (t.drop a):=by
 rw[List.take_length,<- List.map_drop]
 rfl
theorem Lk{n:Nd}{r:List Nd}(h2:n.op≠2)(I:gu n=true)(a8:(n::r).length<=1000000)(ih:∀a,1<=a ->a<=(n::r).length ->VC prog 148 [ah ((n::r).drop a)] (ia ((n::r).drop a))):VC prog 148 [ah (n::r)] (ia (n::r)):=by
 have C:aG n=true/\n.op≠3/\n.op≠13:=by simpa[gu]using I
 obtain⟨C,h3,D⟩:=C;have a0:=dn C;have s:n.op=12 ->cA n=2*n.b/\0<=n.b:=λb=>by
  have L:IntKind.i64.wrap (2*n.b)=2*n.b:=by rw[IntKind.wrap_i64];omega
  exact⟨by simp[cA,b,L],a0.1⟩
 have a9:0<=cA n/\cA n<=100:=by
  have hk:=nX C
  by_cases b:n.op=12
  ·have:=s b
   have:aX n.b 1 4=true:=by simp[aG,b]at C;exact C.1
   have:=dE.1 this;omega
  ·have L:IntKind.i64.wrap (2+n.b)=2+n.b:=by rw[IntKind.wrap_i64];omega
   have:bv n=cA n:=by
    simp only[bv,cA,b,D,if_false,L,or_false]
    repeat' split
    all_goals first|rfl|omega
   omega
 have hE:endS (n::r) .tm 0=iW (n::r) n 0 1:=by
  have O:cnt .tm n=some (bv n).toNat:=by simp[cnt,C,h3,D,h2]
  unfold iW
  by_cases b:n.op=12
  ·have:=s b
   rw[KX b,KX UO,sj (n::r) .tm (a:=0) (n:=n) rfl O (λ_=>h2) (s':=.fn) (λk=>by simp[nx,b]) h2]
   congr 1
   simp[bv,b]
  ·rw[KY b,sj (n::r) .tm (a:=0) (n:=n) rfl O (λ_=>h2) (s':=.tm) (λk=>by simp[nx,b,h2]) h2]
   have L:IntKind.i64.wrap (2+n.b)=2+n.b:=by rw[IntKind.wrap_i64];omega
   have:bv n=cA n:=by
    simp only[bv,cA,b,D,if_false,L,or_false]
    repeat' split
    all_goals first|rfl|omega
   rw[this]
   rfl
 have O:=zG n;rw[I]at O;have eL:=au ndP (n::r);have eC:(n::r).length=r.length+1:=rfl;refine cR 183 [.cell 2 145,.tmp 3,.tmp 4] τok func148 ?_;refine aj<|vn ?_;refine vm 0 rfl ?_;refine ae O ?_;refine vm 0 rfl ?_;refine vm 0 rfl ?_;refine vn ?_;refine lF 7 3 1000 145 6 rfl rfl rfl UO<|lF 7 5 1002 46 3 rfl rfl rfl UO<|aB τok (σ:=Nat×Nat×List Tr×List Nd) [(0,_),(2,_),(3,_),(4,_),(5,_),(7,_)] [(2,_)] (λq=>[(8,vI (q.2.1:Int)),(10,vI q.1)]) (λq=>[(7,.st 0 145 [.p (pI n.op),.p (pI n.a),.p (pI n.b),.row 1000,.p (.raw (.slice none 0 0)),.row 1002]),(1000,.rw 145 6 (q.2.2.1.map trP)),(1002,.rw 46 3 (q.2.2.2.map ndP))])
  (λq=>(q.1:Int)<=cA n/\1<=q.2.1/\q.2.1<=(n::r).length/\endS (n::r) .tm 0=iW (n::r) n q.1 q.2.1/\q.2.2.1.length=q.1/\(∀k∈q.2.2.1,Ok .tm k)/\(n.op=12 ->q.2.2.2.length=(q.1+1)/2)/\(n.op≠12 ->q.2.2.2=[])/\(n::r).take q.2.1=n::cB n.op q.2.2.2 0 q.2.2.1) (λq=>(cA n).toNat-q.1) (0,1,[],[]) ⟨Us,UO,Ud,hE,rfl,Ud,λ_=>rfl,λ_=>rfl,by simp[cB]⟩ ?_
 rintro⟨i,a,K,F⟩ ⟨g1,g2,g3,X,Y,g6,R,Z,g9⟩;simp only at g1 g2 g3 X Y g6 R Z g9;have fl:iW (n::r) n i a=none ->PV.tup [z6P,pI 0,.bool false]=ia (n::r):=λh=>zL (by rw[X,h]);refine aD<|af (λg=>?_) (λg=>?_)
 ·refine VCode.seq (VCode.blk ?_)
  refine eo τok (σ:=Nat×List Nd) [(0,_),(2,_),(3,_),(4,_),(5,_),(7,_),(10,_)] [(2,_),(1000,_)] (λq=>[(8,vI (q.1:Int))]) (λq=>[(7,.st 0 145 [.p (pI n.op),.p (pI n.a),.p (pI n.b),.row 1000,.p (.raw (.slice none 0 0)),.row 1002]),(1002,.rw 46 3 (q.2.map ndP))])
   (λq=>1<=q.1/\q.1<=(n::r).length/\iW (n::r) n i a=(endS (n::r) .tm q.1).bind (iW (n::r) n (i+1))/\(n.op=12 ->q.2.length=(i+2)/2)/\(n.op≠12 ->q.2=[])/\∀y,(n::r).take q.1++row y=n::cB n.op q.2 0 (K++[y])) ?_ ?_
  ·have w:∀y,(n::r).take a++((if n.op=12/\i%2=0 then (F[i/2]?).toList else [])++row y)=n::cB n.op F 0 (K++[y]):=λy=>by
    rw[zK,g9,KW,Y];simp
   refine vm 0 rfl ?_;refine af (λb=>?_) (λb=>?_)
   ·refine pT Uo Uo Uo ?_
    refine af (λhe=>?_) (λhe=>?_)
    ·refine af (λq1=>?_) (λq1=>?_)<;>simp only at q1
     ·exact⟨_,_,rfl,rfl,fl (EX b Uo g s λf d=>by rw[QF Uo]at d;cases d)⟩
     obtain⟨f,d⟩:∃f,(n::r)[a]?=some f:=⟨_,gE⟩
     have E:¬ (f.op=13/\aG f=true) ->PV.tup [z6P,pI 0,.bool false]=ia (n::r):=λq=>fl (EX b Uo g s λf' T=>by rw[d]at T;obtain rfl:=JB T;exact q);refine vm a d ?_;refine af (λH=>?_) (λH=>?_)
     ·exact⟨_,_,rfl,rfl,E λq=>H q.1⟩
     have H:f.op=13:=Uo
     refine vm a d ?_;refine bV (vd _ _ _) (λq3=>?_) (λq3=>?_)
     ·refine vm a d ?_
      refine af (λq4=>?_) (λq4=>?_)
      ·exact⟨_,_,rfl,rfl,E λq=>by simp[aG,H,q3,q4]at q⟩
      have a1:aG f=true:=by simp[aG,H,q3];omega
      have a2:=Li b Uo g s d H a1;refine vm a d ?_;refine bi ?_;refine vk ?_;refine vi ?_;refine aw (a+1,F++[f]) ⟨Us,aM d,a2,λ_=>by simp only[JK,List.length_singleton,R b];omega,λq=>absurd b q,λy=>?_⟩ (sw 1002 157);have b0:=R b;simp only;rw[zK,<- ET (F:=F) K 0 λ_ j _ hj b1=>by rw[QH Uo],KW,Y,KX ⟨b,Uo⟩,QU Uo,QQ,d,g9,show i/2-F.length=0 by omega];simp
     ·exact⟨_,_,rfl,rfl,E λq=>by simp[aG,H,q3]at q⟩
    ·refine aw (a,F) ⟨g2,g3,EW (λ_=>Uo) g s,λq=>by have:=R q;simp only;omega,Z,λy=>?_⟩
     rw[<- w,KY λq=>he (by have:=q.2;simp only;omega)]
     rfl
   ·refine aw (a,F) ⟨g2,g3,EW (λq=>absurd q b) g s,λq=>absurd q b,Z,λy=>?_⟩
    rw[<- w,KY λq=>b q.1]
    rfl
  ·rintro⟨e,F'⟩ ⟨m1,m2,m3,m4,m5,m6⟩
   simp only at m1 m2 m3 m4 m5 m6;have o:=ih e m1 m2;rw[<- Lj]at o;have v:=ve m2;have a3:∀x∈(n::r).map ndP,x.length=3:=λx hx=>by
    obtain⟨m,_,rfl⟩:=List.mem_map.1 hx
    rfl
   refine aj<|bH e _ ?_ a3;cases V:kS ((n::r).drop e)with
   |none=>
    rw[V]at v;rw[m3,v]at fl;rw[show ia ((n::r).drop e)= .tup [z6P,pI 0,.bool false] by unfold ia;rw[V]]at o;exact ae o<|⟨_,_,rfl,rfl,fl rfl⟩
   |some q=>
    obtain⟨y,r'⟩:=q;rw[V]at v;rw[show ia ((n::r).drop e)= .tup [bE y,pI ((((n::r).drop e).length-r'.length:Nat):Int),.bool true] by unfold ia;rw[V]]at o;obtain⟨W,a4⟩:=zJ V;have a5:=KG List.length W;rw[JK,VK]at a5;have b2:=aZ y;refine ae o ?_;refine bi ?_;refine vi ?_ (by rw[VK];omega) (by rw[VK];omega);refine aj<|vi ?_;have e1:(e:Int)+((((n::r).drop e).length-r'.length:Nat):Int)=((e+(row y).length:Nat):Int):=by rw[VK];omega
    refine aw (i+1,e+(row y).length,K++[y],F') ⟨Us,Us,Us,?_,by simp[Y],λk hk=>?_,λq=>by have:=m4 q;simp only;omega,m5,?_⟩ (sw 1000 176) (x:=⟨KG (λz=>some (vI z)) e1,rfl,trivial⟩) (y':=⟨rfl,KG (λl=>some (SE.rw _ _ l)) (by rw[KB];exact KG (List.map trP K++[·]) (kR y).symm),rfl,trivial⟩)
    ·rw[X,m3,v]
     simp only[Option.map_some,Option.bind_some];rw[show (n::r).length-r'.length=e+(row y).length by omega]
    ·rcases List.mem_append.1 hk with h|h
     ·exact g6 k h
     ·obtain rfl:=List.mem_singleton.1 h
      exact a4
    ·simp only
     rw[<- m6 y,List.take_add,W,List.take_left]
 ·have he:endS (n::r) .tm 0=some a:=by
   rw[X];unfold iW
   by_cases b:n.op=12
   ·have:=s b
    rw[KX b,KX Uo,show n.b.toNat-i/2=0 by omega]
    rfl
   ·rw[KY b,show (cA n).toNat-i=0 by omega]
    rfl
  obtain⟨x,hx,ht,a6,hr⟩:=EV he;have a7:=Lg hx h2 ht a6 g6 Uo (λb=>by have:=R b;have:=s b;omega) Z g9;exact aE (h3:=by rw[hr,a7];rfl)
theorem Ew':∀(N:Nat) (t:List Nd),t.length<=N ->N<=1000000 ->VC prog 148 [ah t] (ia t):=by
 intro N
 induction N with
 |zero=>
  intro t h _;obtain rfl:t=[]:=List.length_eq_zero_iff.1 (by omega);refine vf 183 [.cell 2 145,.tmp 3,.tmp 4] τok func148 ?_;exact⟨_,_,rfl,rfl,rfl⟩
 |succ N i=>
  intro t h j;cases t with
  |nil=>
   refine vf 183 [.cell 2 145,.tmp 3,.tmp 4] τok func148 ?_;exact⟨_,_,rfl,rfl,rfl⟩
  |cons n r=>
   cases b:gu n with
   |false=>
    have d:=zG n;rw[b]at d;have k:=au ndP (n::r);have eC:(n::r).length=r.length+1:=rfl;refine vf 183 [.cell 2 145,.tmp 3,.tmp 4] τok func148 ?_;refine vn ?_;refine vm 0 rfl ?_;refine ae d ?_;exact⟨_,_,rfl,rfl,zL (Ld b)⟩
   |true=>
    by_cases e:n.op=2
    ·exact Lh e (by simp[gu]at b;exact b.1) (by omega)
    ·exact Lk e b (by omega) λa l o=>i _ (by rw[VK];omega) (by omega)
def ImN(lo:Nat)(X:List Nat)(w:World):Mem:=λb o v=>Im X w b o v/\New lo w b o v
abbrev qu(n:Nd):PV:=.agg (ndP n)
theorem Ll(n:Nd):VC prog 209 [qu n] (.bool (aX n.a 0 63)):=by
 refine vf 11 [.tmp 2] τok func209 ?_
 repeat' refine af (λ_=>?_) (λ_=>?_)
 all_goals exact⟨_,_,rfl,rfl,KG PV.bool (by first|(simp[aX, *];done)|(simp[aX, *];omega))⟩
theorem zM(n:Nd):VC prog 168 [qu n] (.bool (aG n)):=by
 generalize hP:aG n=P;have fin:∀{Q:Bool},Q=P ->ge' [PV.nz (.bool Q)]= .bool P:=λh=>by rw[h];rfl
 have b:=Ll n;have d:=@dE n.a 0 63
 generalize aX n.a 0 63=q at b d
 refine vf 148 [.tmp 2] τok func168 ?_;cases q<;>simp at d
 all_goals
  repeat' first
   |refine af (λ_=>?_) (λ_=>?_)
   |refine ae b ?_
  all_goals exact⟨_,_,rfl,rfl,fin (by rw[<- hP];first|(simp[aG,aX, *];done)|(simp[aG,aX, *];omega))⟩
theorem zN(n:Nd)(hb:0<=n.b/\n.b<=1000):VC prog 145 [qu n] (pI (bv n)):=by
 refine vf 21 [.tmp 2] τok func145 ?_
 repeat' first|refine af (λ_=>?_) (λ_=>?_)|refine vi ?_
 all_goals exact⟨_,_,rfl,rfl,KG (PV.int .i64) (by simp[bv, *])⟩
theorem EY(n:Nd)(k:Int):VC prog 146 [qu n,pI k] (pI (bh n k)):=by
 refine vf 25 [.tmp 4] τok func146 ?_
 repeat' refine af (λ_=>?_) (λ_=>?_)
 all_goals exact⟨_,_,rfl,rfl,KG (PV.int .i64) (by simp_all [bh])⟩
end Go.Q
namespace Go.Wx
def VD(P:Program)(f:FuncId)(u:FrameMode)(js:List Nat)(m m':List (Nat×SE)):Prop:=
 dM P f/\∀(w:World) (X:List Nat) (C:Mem) (ρ:Nat ->Value),Rp w X C ⟨ja' (jD js) 0,m⟩ ⟨ini (js.map ρ) 0,[]⟩ w C ρ ->
  CallsD P f (js.map ρ).toArray u w λe u' w'=>(∃v,e= .returned v)/\settle u'= .returning/\∃C' ρ',Rp w X C ⟨[],m'⟩ ⟨[],[]⟩ w' C' ρ'
section
variable{P:Program}{τ:Tau}{n:Nat}{A:AS}{f cl:FuncId}{rs:List ResultVar}{a:AV}{m m':List (Nat×SE)}{t:Nat}{fv:Value}{u:FrameMode}
structure DQ(P:Program)(τ:Tau)(rs:List ResultVar)(a:AV)(m':List (Nat×SE))(t:Nat)(fv:Value)(u:FrameMode)(A:AS):Prop where
 go:∃(cl:FuncId) (js ks:List Nat) (h fg:Nat ->Nat) (m1 m2:List (Nat×SE)),VD P cl u js m1 m2/\u≠ .run/\look A.e t=some (.c (.fr fv cl ks))/\js.map h=ks/\pX A ks=true/\nS A h m1/\lD m1 0=true/\da h (keysOf m1++newK m1 m2)=true/\da h (keysOf m2)=true/\jY m1 m2=true/\newK m1 m2=[]/\gV ⟨[],m2⟩ (kD m2)=true/\mJ A h fg m2=true/\qd τ rs a m' (A.upd [] (jh fg h m1 m2))
theorem jn{d ks:List Nat}(h fg:Nat ->Nat){b m2:List (Nat×SE)}(e:VD P cl u d b m2)(j:qd τ rs a m' (A.upd [] (jh fg h b m2)))(k:u≠ .run:=by exact λh=>by cases h)(o:look A.e t=some (.c (.fr fv cl ks)):=by rfl)(q:d.map h=ks:=by rfl)(r:pX A ks=true:=by rfl)(he:nS A h b:=by repeat first|exact VQ|refine And.intro rfl ?_)(s:lD b 0=true:=by rfl)(i:da h (keysOf b++newK b m2)=true:=by rfl)(i':da h (keysOf m2)=true:=by rfl)(p:jY b m2=true:=by rfl)(v:newK b m2=[]:=by rfl)(l:gV ⟨[],m2⟩ (kD m2)=true:=by rfl)(g:mJ A h fg m2=true:=by rfl):DQ P τ rs a m' t fv u A:=
 ⟨cl,d,ks,h,fg,b,m2,e,k,o,q,r,he,s,i,i',p,v,l,g,j⟩
def Ln(P:Program)(τ:Tau)(rs:List ResultVar)(a:AV)(m':List (Nat×SE))(t:Nat)(fv:Value):Exit ->AS ->Prop
 | .normal,A=>DQ P τ rs a m' t fv .returning A
 | .ret,A=>DQ P τ rs a m' t fv .returning A
 | .panic ch,A=>DQ P τ rs a m' t fv (.panicking ch) A
 |_,_=>False
theorem zO{w0 w:World}{X:List Nat}{C0:Mem}{s:St}{caps:Array Value}(K:aS P τ)(hD:DQ P τ rs a m' t (.func (.func cl) #[] caps) u A)(hd:s.d=[{target:=.fn (.func cl) caps,args:=#[] }])(z:Rep w0 X C0 A s w):
  lv P rs (λe w'=>∃v C' ρ',e= .returned v/\Rp w0 X C0 ⟨[(0,a)],m'⟩ ⟨[(0,v)],[]⟩ w' C' ρ') u s w:=by
 obtain⟨a3,js,ks,h,fg,m1,m2,hV,hu,ht,hj,hs,he,L,O,R,hp,V,hl,H,hE⟩:=hD.go;obtain⟨C,ρ,z⟩:=z;have D:=Df hs;have W:Lv A ks:=λk I=>by
  obtain⟨g,T,cs,d⟩:=D k I;exact⟨_,d,rfl⟩
 obtain⟨v,_,rfl,E⟩:=z.slot t _ ht W;injection E with j _ Y
 injection j with j
 subst j Y;have F:=C9 he;have e3:ks.map ρ=js.map λk=>ρ (h k):=by rw[<- hj,List.map_map];rfl
 refine⟨_,_,_,cl,(ks.map ρ).toArray,hd,hu,by simp[go_sem,Co hV.1],?_⟩;rw[e3];refine(hV.2 w _ C (λk=>ρ (h k)) (z.into F (rJ O) L (by simp[jD]) λi b v l E=>?_)).mono λe u' w' ⟨h1,h2,C2,a4,h3⟩=>⟨h1,h2,?_⟩
 ·unfold jD at l
  rw[JX]at l E;cases o:js[i]? with
  |none=>rw[o]at l;cases l
  |some q=>
   rw[o]at l E;obtain rfl:=JB l;obtain rfl:=JB E;obtain⟨g,T,cs,d⟩:=D (h q) (by rw[<- hj];exact QD (JQ o));obtain⟨b,us,e,_⟩:=z.ent _ _ d;exact⟨b,e,e⟩
 ·have Z:∀p∈m2,p.2.fl≠none ->sp' (look A.m (h p.1))=fg (h p.1):=λp r a0=>by
   obtain⟨_,g2⟩:=C8 H p r;obtain⟨c1,_⟩:=uo hp p r;have a1:p.1∈keysOf m2:=by rw[mH];exact QD (f:=(·.1)) r
   have d:p.1∈keysOf m1:=Classical.byContradiction λd=>by
    have:=mI.2 ⟨a1,d⟩;unfold newK at V;rw[V]at this;cases this
   obtain⟨y,hy⟩:∃y,(p.1,y)∈m1:=by
    rw[mH]at d;obtain⟨q,o,e⟩:=List.mem_map.1 d;exact⟨q.2,by rw[<- e];exact o⟩
   rcases c1 y (oW (rJ O) hy)with ⟨g,j,Y,_⟩|j
   ·obtain⟨q,o,_⟩:=oX (ρ:=ρ) L _ hy g Y
    exact g2 q (by rw[j,o];simp)
   ·cases H:p.2.fl with
    |none=>exact absurd H a0
    |some g=>rw[(rI H).2]at j;cases j
  obtain⟨C3,a5,a2⟩:=z.back (s':=s) (wr:=[]) (v:=undef) (a:=.c (.p (.raw undef))) F O R L hp hl (λk I=>by rw[V]at I;cases I) Z (h3.reslot (b:=.c (.p (.raw undef))) λ_=>RV.raw _) (λt b l=>by cases l) λ_ _=>rfl;exact yQ K a2 hE
theorem Lo{fn:Func}{c:Code}{args:List Value}{w:World}{R:Ending ->World ->Prop}(n:Nat)(rs:List ResultVar)
  (o:P.funcs[f]?=some fn) (hb:fn.body=some c) (q:fn.ntmps=n) (i:fn.results.toList=rs) (r:args.length<=n)
  (h:EvCode P n c ⟨ini args 0,[]⟩ w (yZ P rs R)):Calls P f args.toArray w R:=by
 subst q i;refine calls_of_wp_defers o hb ?_;have z:Fr fn.ntmps {tmps:=args.toArray++Array.replicate (fn.ntmps-args.toArray.size) undef,defers:=[] } ⟨ini args 0,[]⟩:=by
  refine⟨Uk,rfl,λt v C=>?_⟩;obtain⟨_,j⟩:=lC' _ _ _ _ C;rw[Nat.sub_zero]at j;have k:t<args.length:=(List.getElem?_eq_some_iff.1 j).1;rw[Array.getElem?_append_left (by simpa using k)]
  simpa using j
 unfold EvCode at h;refine Go.wp_mono (h _ z) λe E F D=>?_;obtain⟨s,b,d⟩:=D;cases e with
 |normal=>exact y5 b d
 |ret=>exact y5 b d
 |panic H=>exact y5 b d
 |outgrown=>exact d.elim
 |exit id=>exact d.elim
 |goto l=>exact d.elim
structure Lp(o:Oper)(t:Nat):Prop where
 g:o.guard=none
 d:o.dst=none
 p:o.op= .defer {callee:=.value (.tmp t),args:=#[],argTypes:=#[] }
def KD(P:Program)(τ:Tau)(n:Nat)(A:AS)(o:Oper)(c:Code)(rs:List ResultVar)(a:AV)(m':List (Nat×SE)):Kk:=λwr wm F=>match wr,wm,F with
 |[(t,.c (.fn cl ks))],[],[]=>Lp o t/\gV A ks=true/\∀fv,VCode P n c (A.upd [(t,.c (.fr fv cl ks))] []) (Ln P τ rs a m' t fv)
 |_,_,_=>False
theorem Lq{c1:Code}{id:Nat}{O R:Oper}{w T:World}{X:List Nat}{C:Mem}{D:St}{o:Act}(q:aS P τ)(hg:O.guard=none)(V:V1 P τ n O A (KD P τ n A R c1 rs a m') λ_ _=>False)(a0:Fr n o D)(a1:D.d=[])(a2:Rep w X C A D T):
  (Code.seq (.region id #[O,R] false) c1).wp P (lift n (yZ P rs λe w'=>∃v C' ρ',e= .returned v/\Rp w X C ⟨[(0,a)],m'⟩ ⟨[(0,v)],[]⟩ w' C' ρ')) o T:=by
 rcases V1_snd (w0:=w) (X:=X) (C0:=C) q V with ⟨wr,wm,F,z,hT⟩|⟨_,_,z,_⟩
 ·unfold KD at z
  split at z
  ·rename_i t cl ks
   obtain⟨E,a3,z⟩:=z;refine wp_seq<|Go.wp_mono (mC q (.region id #[O,R] false) D T (λe s' w'=>e= .normal/\∃i,s'.d=[{target:=.fn (.func cl) i,args:=#[] }]/\Rep w X C (A.upd [(t,.c (.fr (.func (.func cl) #[] i) cl ks))] []) s' w') ?_ o a0) λe W w2 a4=>?_
   ·show gh P τ n [O,R] _ _ [O,R] D T
    rw[mz];simp only[hg];refine hT A D T _ _ ⟨λ_ _=>rfl,λ_ _ _ _ _ _ _=>rfl,λ_ _ _=>rfl,λ_ _ _ _ h=>h⟩ (λk V=>by cases V) a2 λs2 w2 d r=>?_;obtain⟨C2,H,d⟩:=d;have a5:look (A.upd [(t,AV.c (.fn cl ks))] []).e t=some (.c (.fn cl ks)):=mF _ _ _;obtain⟨v,hv,I⟩:=d.slot t _ a5 (nM a3);have I:v= .func (.func cl) #[] (ks.map H).toArray:=I;subst I;rw[mz];simp only[E.g];unfold aV;simp only[E.p];refine aW (show ev s2.e (.tmp t)=_ from hv) ?_;obtain⟨e2,d2⟩:=s2;have r:d2=D.d:=r;subst r;rw[E.d,a1];refine⟨by trivial,(ks.map H).toArray,Ud,C2,H,λY b K hl=>?_,λk x V=>?_,d.sep,d.off,d.sub,d.c0,d.cn,d.kp⟩
    ·have K:look ((t,_)::A.e) Y=some b:=K
     rw[cI]at K;cases Z:Nat.beq t Y with
     |true=>
      rw[Z]at K;obtain rfl:=QJ Z;obtain rfl:=JB K;exact⟨_,hv,rfl,rfl⟩
     |false=>
      rw[Z]at K;refine d.slot Y b ?_ hl;show look ((t,_)::A.e) Y=some b;rw[cI,Z];exact K
    ·have:=d.ent k x V
     cases x<;>exact this
   ·obtain⟨s2,a6,he,i,r,d⟩:=a4
    subst he;have h3:=(z (.func (.func cl) #[] i)).run _ _ _ _ _ d;unfold EvCode at h3;refine Go.wp_mono (h3 W a6) λe a' w' hl=>?_;obtain⟨s4,a7,s,A4,j,L⟩:=hl;refine⟨s4,a7,?_⟩;rw[r]at s;cases e with
    |normal=>exact zO q j s L
    |ret=>exact zO q j s L
    |panic ch=>exact zO q j s L
    |exit id=>exact j.elim
    |goto l=>exact j.elim
    |outgrown=>exact j.elim
  ·exact z.elim
 ·exact z.elim
def zP(P:Program)(n:Nat)(F:AS ->Prop):List Code ->AS ->Prop
 |[],A=>F A
 |c::cs,A=>VCode P n c A (gp (zP P n F cs) λ_ _=>False)
theorem EZ{c1:Code}{id:Nat}{o H:Oper}{w:World}{X:List Nat}{C:Mem}(j:aS P τ)(I:o.guard=none):∀(cs:List Code) {A:AS} {k:World} {d:St} {b:Act},zP P n (λA=>V1 P τ n o A (KD P τ n A H c1 rs a m') λ_ _=>False) cs A ->Fr n b d ->d.d=[] ->Rep w X C A d k ->(cs.foldr Code.seq (.seq (.region id #[o,H] false) c1)).wp P (lift n (yZ P rs λe w'=>∃v C' ρ',e= .returned v/\Rp w X C ⟨[(0,a)],m'⟩ ⟨[(0,v)],[]⟩ w' C' ρ')) b k
 |[],A,k,d,b,h,q,r,s=>Lq j I h q r s
 |c::cs,A,k,d,b,h,q,r,s=>by
  have K:=(show VCode P n c A _ from h).run _ _ _ _ _ s;unfold EvCode at K;refine wp_seq (Go.wp_mono (K b q) λe L R z=>?_);obtain⟨O,D,E,T,i,F⟩:=z;cases e with
  |normal=>exact EZ j I cs i D ((show O.d=d.d from E).trans r) F
  |exit id=>exact i.elim
  |goto l=>exact i.elim
  |ret=>exact i.elim
  |panic V=>exact i.elim
  |outgrown=>exact i.elim
theorem zQ{fn:Func}{c1:Code}{id:Nat}{b j:Oper}{bs:List AV}(cs:List Code)(n:Nat)(rs:List ResultVar)(d:aS P τ)(k:P.funcs[f]?=some fn)
  (h : zP P n (λA => V1 P τ n b A (KD P τ n A j c1 rs a m') λ_ _ => False) cs ⟨ja' bs 0, m⟩) (hb : fn.body = some (cs.foldr Code.seq (.seq (.region id #[b, j] false) c1)) := by rfl) (l : b.guard = none := by rfl) (o : fn.ntmps = n := by rfl) (e : fn.results.toList = rs := by rfl) (q : bs.length <= n := by exact QX rfl) (i : (fn.name == "runtime.NumGoroutine") = false := by decide) : VG P f bs m (.ok (a, m')) := by
 refine⟨⟨fn,k,by rw[hb];rfl,i⟩,λw X C ρ z D r=>?_⟩;refine Lo n rs k hb o e Uo ?_;unfold EvCode;exact λs v=>EZ d l cs h v rfl ⟨C,ρ,r⟩
theorem pf{fn:Func}{c0 c1:Code}{id:Nat}{b k:Oper}{bs:List AV}(n:Nat)(rs:List ResultVar)(d:aS P τ)(l:P.funcs[f]?=some fn)
  (h : VCode P n c0 ⟨ja' bs 0, m⟩ (gp (λA => V1 P τ n b A (KD P τ n A k c1 rs a m') λ_ _ => False) λ_ _ => False)) (hb : fn.body = some (.seq c0 (.seq (.region id #[b, k] false) c1)) := by rfl) (o : b.guard = none := by rfl) (q : fn.ntmps = n := by rfl) (e : fn.results.toList = rs := by rfl) (i : bs.length <= n := by exact QX rfl) (j : (fn.name == "runtime.NumGoroutine") = false := by decide) : VG P f bs m (.ok (a, m')) := zQ [c0] n rs d l h hb o q e i j
theorem Lr{fn:Func}{c0 cx c1:Code}{id:Nat}{b k:Oper}{bs:List AV}(n:Nat)(rs:List ResultVar)(d:aS P τ)(l:P.funcs[f]?=some fn)
  (h : VCode P n c0 ⟨ja' bs 0, m⟩ (gp (λA => VCode P n cx A (gp (λA => V1 P τ n b A (KD P τ n A k c1 rs a m') λ_ _ => False) λ_ _ => False)) λ_ _ => False)) (hb : fn.body = some (.seq c0 (.seq cx (.seq (.region id #[b, k] false) c1))) := by rfl) (o : b.guard = none := by rfl) (q : fn.ntmps = n := by rfl) (e : fn.results.toList = rs := by rfl) (i : bs.length <= n := by exact QX rfl) (j : (fn.name == "runtime.NumGoroutine") = false := by decide) : VG P f bs m (.ok (a, m')) := zQ [c0, cx] n rs d l h hb o q e i j
end
end Go.Wx
namespace Tm
section
variable{U:Type}{one:U×List Nd ->Nd ->Int ->Option (U×List Nd)}
mutual
theorem vg{wt:U ->Nat}{G:Nat}(o:1<=G)(h:∀u l n d i l',one (u,l) n d=some (i,l') ->l'.length+wt i<=l.length+wt u+G):∀(x:Tr) (d nb:Int) (u:U) (l:List Nd) (i:U) (l':List Nd),wT one cM x d nb (u,l)=some (i,l') ->l'.length+wt i<=l.length+wt u+G*(row x).length
 | .mk n ks,d,nb,u,l,i,l',e=>by
  simp only[wT]at e;split at e
  ·cases e
  ·rename_i q b
   obtain⟨j,k⟩:=q;have r:k.length+wt j<=l.length+wt u+G:=by
    split at b
    ·simp only[cM,QZ,Prod.mk.injEq]at b
     rw[<- b.1,<- b.2];simp;omega
    ·exact h _ _ _ _ _ _ b
   have s:=E0 o h ks n nb 0 d j k i l' e;simp only[row,JV,Nat.mul_add];omega
theorem E0{wt:U ->Nat}{G:Nat}(j:1<=G)(h:∀u l n d b l',one (u,l) n d=some (b,l') ->l'.length+wt b<=l.length+wt u+G):∀(ks:List Tr) (n:Nd) (nb k d:Int) (u:U) (l:List Nd) (b:U) (l':List Nd),wK one cM ks n nb k d (u,l)=some (b,l') ->l'.length+wt b<=l.length+wt u+G*(rows ks).length
 |[],n,nb,k,d,u,l,b,l',e=>by
  simp only[wK,QZ,Prod.mk.injEq]at e;rw[e.1,e.2];simp[rows]
 |x::r,n,nb,k,d,u,l,b,l',e=>by
  simp only[wK]at e;split at e
  ·cases e
  ·rename_i s i
   obtain⟨o,q⟩:=s;have v:=vg j h x _ _ u l o q i;have w:=E0 j h r n nb (k+1) d o q b l' e;simp only[rows,JK,Nat.mul_add];omega
end
end
end Tm
namespace Go.Q
def exL:List (Nat×List AC) ->Nat ->Nat ->List (Nat×SE)
 |[],_,_=>[]
 |(T,cs)::r,k,g=>(k,.st g T cs)::exL r (k+1) (g+1)
def zR{σ:Type}(c:σ ->List (Nat×List AC)):Prop:=∃(T0 T1 T2 T3 T4:Nat) (g:FuncId) (p0 p1 p2 p3:σ ->PV),
 (c=λu=>[(T0,[.p (p0 u)]),(T1,[.p (p1 u)])]) \/(c=λu=>[(T0,[.p (p0 u)]),(T1,[.fn g [102]]),(T2,[.p (p1 u)])]) \/
 (c=λu=>[(T0,[.p (p0 u)]),(T1,[.fn g [102,103,104]]),(T2,[.p (p1 u)]),(T3,[.p (p2 u)]),(T4,[.p (p3 u)])]) \/c=λu=>[(T0,[.p (p0 u)]),(T1,[.fn g [102,103]]),(T2,[.p (p1 u)]),(T3,[.p (p2 u)])]
abbrev m9(l:List Nd):SE:=.rw 46 3 (l.map ndP)
section
variable{σ:Type}(c:σ ->List (Nat×List AC))(f:FuncId)(t:List Nd)
def wM(r:Nat)(p:Nat)(u:σ)(l:List Nd):List (Nat×SE):=
 (r,m9 l)::(1,.st 1 29 [.p (ah t)])::(2,.st 2 3 [.p (pI p)])::(3,.st 3 240 [.fn f [100,101]])::(4,.st 4 29 [.row r])::(5,.st 5 210 [.fn 211 [1,2,3,4,5]])::exL (c u) 100 6
def One(wt:σ ->Nat)(one:σ×List Nd ->Nd ->Int ->Option (σ×List Nd))(M:Nat)(er:Int):Prop:=
 ∀(u:σ) (l:List Nd) (n:Nd) (d:Nat),aG n=true ->d<=100000 ->l.length+wt u<=M ->VG prog f [.c (.row 0),.c (.p (qu n)),.c (.p (pI d)),.c (.ptr 100 0),.c (.ptr 101 0)] ((0,m9 l)::exL (c u) 100 1) (match one (u,l) n d with
  |some s=>.ok (.c (.row 10),(10,m9 s.2)::exL (c s.1) 100 1)
  |none=>.error (sp er))
def zS(n k:Nat):Nat:=match Nat.ble 100 k with
 |true=>k-n
 |false=>k
def E1{σ:Type}{c:σ ->List (Nat×List AC)}{f:FuncId}{one:σ×List Nd ->Nd ->Int ->Option (σ×List Nd)}{wt:σ ->Nat}{M:Nat}{er:Int}(_:One c f wt one M er)(u:σ):List (Nat×SE):=exL (c u) 100 6
theorem Ls(c6:zR c)(wt:σ ->Nat)(one:σ×List Nd ->Nd ->Int ->Option (σ×List Nd))(M:Nat)(er:Int)(G:Nat)(hG:1<=G)(hM:M<=100000000)(T:One c f wt one M er)(w:∀u l n d u' l',one (u,l) n d=some (u',l') ->l'.length+wt u'<=l.length+wt u+G)(ht:t.length<=100000):
  ∀(N:Nat) (x:Tr) (j:List Nd) (p:Nat) (u:σ) (l:List Nd) (d:Nat),(row x).length<=N ->Ok .tm x ->t.drop p=row x++j ->d+4*(row x).length<=100000 ->l.length+wt u+G*(row x).length<=M ->
   VG prog 211 [.c (.p (pI d)),.c (.ptr 1 0),.c (.ptr 2 0),.c (.ptr 3 0),.c (.ptr 4 0),.c (.ptr 5 0)] (wM c f t 0 p u l) (match wT one cM x d 0 (u,l)with
    |some s=>.ok (.c (.p (.tup [])),wM c f t 10 (p+(row x).length) s.1 s.2)
    |none=>.error (sp er)):=by
 intro N
 induction N using Nat.strongRecOn with
 |_ N ih=>
 rintro⟨n,ks⟩ j p u l d hN hx O hd hl;obtain⟨hp,h3,a9⟩:=hx.tm;obtain⟨hc,a',b6⟩:=hx.kids;have b7:=dn hp;have eT:=au ndP t;have h1:=T u l n d hp Uo (by simp[row]at hl;have:0<=G*((rows ks).length+1):=KV _;omega);generalize b:wT one cM (.mk n ks) d 0 (u,l)=a3;simp only[wT,KY (show ¬ (n.op=3 \/n.op=13) by simp[h3,a9])]at b;simp only[row,List.cons_append,JV]at O hN hd hl ⊢;generalize hQ:p+((rows ks).length+1)=Q;have e4:p<t.length:=by
  rcases Nat.lt_or_ge p t.length with h|h
  ·exact h
  ·rw[JY h]at O;cases O
 have hn:t[p]?=some n:=by
  have:=KG List.head? O;rw[List.head?_drop]at this;exact this
 have V:t.drop (p+1)=rows ks++j:=by rw[<- List.drop_drop,O];rfl
 obtain⟨T0,T1,T2,T3,T4,g,p0,p1,p2,p3,rfl|rfl|rfl|rfl⟩:=c6
 all_goals
  refine cJ 70 [] τok func211 ?_;refine aD<|vm (p:=ndP) p hn ?_;refine aD<|vi ?_;refine aD ?_;cases hr:one (u,l) n d with
  |none=>
   rw[hr]at h1 b;subst b;refine mL id h1 ?_;exact rfl
  |some r=>
  rw[hr]at h1 b;refine aT id (λk=>k-94) h1 ?_;obtain⟨u1,l1⟩:=r;have c7:=w _ _ _ _ _ _ hr;simp only at b c7;rw[Nat.mul_add]at hl;have e5:(rows ks).length<=G*(rows ks).length:=Nat.le_mul_of_pos_left _ hG;have e6:t.length-(p+1)=(rows ks).length+j.length:=by rw[<- VK,V,JK]
  obtain⟨v,e⟩:∃v,v=(if n.op=2 then []else ks):=⟨_,rfl⟩
  refine eo τok (σ:=Nat×List Nd) [(0,_),(1,_),(2,_),(3,_),(4,_),(5,_),(7,_)] ([(1,_),(3,_),(5,_),(7,_)]++E1 T u1) (λ_=>[]) (λq=>[(2,.st 2 3 [.p (pI q.1)]),(0,m9 q.2),(4,.st 4 29 [.row 0])]) (λq=>wK one cM v n 0 0 d (u1,q.2)=a3/\t.drop q.1=rows v++j/\q.2.length+wt u1+G*(rows v).length<=M/\Q=q.1+(rows v).length) ?_ ?_
  ·refine af (λD=>?_) (λD=>?_)
   ·have D:n.op=2:=D
    rw[KX D]at e;subst e;have e7:(rows ks).length=ks.length:=qv' D a';obtain⟨_,_,_,b0⟩:=fq hc;rw[KX D]at b0;have e8:n.b=((rows ks).length:Int):=Uo
    rw[DR one ks n 0 0 d (u1,l1) a' D]at b;refine vi ?_;refine bH (p+1) (p+1+(rows ks).length) ?_ (λx hx=>by obtain⟨y,_,rfl⟩:=List.mem_map.1 hx;rfl) rfl;rw[<- List.map_take,<- List.map_drop,List.drop_take,V,Nat.add_sub_cancel_left,List.take_left];refine va ?_ (fM _);refine vk ?_;refine vi ?_;exact aw (p+1+(rows ks).length,l1++rows ks) ⟨by simpa[wK]using b,by
     show t.drop (p+1+(rows ks).length)=_;rw[<- List.drop_drop,V,List.drop_left];simp[rows],by simp[rows];omega,by simp[rows];omega⟩ (f:=λk=>sw 0 31 k) (y':=⟨KG (λz=>some (SE.st 2 3 [.p (pI z)])) (by show _=((p+1+(rows ks).length:Nat):Int);omega),KG (λl=>some (SE.rw _ _ l)) (KB (f:=ndP)).symm,rfl,trivial⟩)
   ·have D:¬ n.op=2:=D
    rw[KY D]at e;subst e;exact aw (p+1,l1) ⟨b,V,Us,Us⟩ (f:=λk=>sw 0 10 k)
  have W:bv n=(v.length:Int)/\bC cnt nx v n .tm 0/\fc' v=true:=by
   obtain⟨_,_,_,b0⟩:=fq hc;have e9:=nX hp
   by_cases D:n.op=2
   ·rw[KX D]at e
    subst e;exact⟨by simp[bv,D],trivial,rfl⟩
   ·rw[KY D]at e b0
    subst e;exact⟨Uo,a',b6⟩
  have b8:(rows v).length<=(rows ks).length:=by
   rw[e];split
   ·simp[rows]
   ·exact KJ _
  have b9:n.op=2 ->v=[]:=λh=>by rw[e,KX h]
  clear b hr h1 e hc
  rintro⟨p6,l6⟩ ⟨b,b1,b2,b3⟩;simp only at b b1 b2 b3;have e2:v.length<=(rows v).length:=by rw[rows_len];exact kY' v
  refine aD<|ae (zN n ⟨b7.1,b7.2.1⟩) ?_;rw[W.1];refine VCode.blk<|aB τok (σ:=Nat×Nat×σ×List Nd×List Tr) [(0,_),(1,_),(2,_),(3,_),(4,_),(5,_),(7,_),(37,_)] [(1,_),(3,_),(5,_),(7,_)] (λq=>[(38,vI q.1)]) (λq=>(2,.st 2 3 [.p (pI q.2.1)])::(0,m9 q.2.2.2.1)::(4,.st 4 29 [.row 0])::E1 T q.2.2.1) (λq=>q.1<=v.length/\q.2.2.2.2.length=v.length-q.1/\wK one cM q.2.2.2.2 n 0 q.1 d (q.2.2.1,q.2.2.2.1)=a3/\t.drop q.2.1=rows q.2.2.2.2++j/\q.2.2.2.1.length+wt q.2.2.1+G*(rows q.2.2.2.2).length<=M/\Q=q.2.1+(rows q.2.2.2.2).length/\bC cnt nx q.2.2.2.2 n .tm 0/\fc' q.2.2.2.2=true/\(rows q.2.2.2.2).length<=(rows ks).length) (λq=>v.length-q.1) (0,p6,u1,l6,v) ⟨KV _,rfl,b,b1,b2,b3,W.2.1,W.2.2,b8⟩ ?_
  clear b b1 b2 b3 O V
  rintro⟨i,p7,u7,l7,a5⟩ ⟨hi,R,b,E,X,Y,a6,Z,L⟩;simp only at hi R b E X Y a6 Z L;refine aj<|af (λg=>?_) (λg=>?_);rotate_left
  ·have g:¬ (i:Int)<v.length:=g
   obtain rfl:a5=[]:=List.length_eq_zero_iff.1 Uo;simp only[wK]at b;subst b;obtain rfl:Q=p7:=by simpa[rows]using Y
   exact .inl ⟨_,_,_,λk=>sw 10 0 k,rfl,rfl,rfl,rfl,by repeat first|exact VQ|refine And.intro rfl ?_,rfl⟩
  have g:(i:Int)<v.length:=g
  match a5,R with
  |[],R=>simp at R;omega
  |y::r,R=>
  obtain⟨F,a7,a0⟩:=kJ a6 Z;simp only[rows,JK,List.append_assoc,Nat.mul_add]at E X Y L;simp only[JV]at R;simp only[wK]at b;refine af (λC=>?_) (λC=>?_)
  ·have C:n.op=12:=C
   have F:Ok .fn y:=by rwa [show nx Md.tm n 0= .fn by simp[nx,C]]at F
   obtain⟨f,H,I,rfl,f13,e',b',c0⟩:=F.fn;have f':1<=n.b/\n.b<=4:=by
    have:aX n.b 1 4=true:=by simp[aG,C]at hp;exact hp.1
    exact dE.1 this
   obtain⟨Bn,c2⟩:∃Bn:Nat,n.b=Bn:=⟨n.b.toNat,Uo⟩
   have b4:H.n.op≠13:=by
    obtain⟨m,l⟩:=H;exact b'.tm.2.2
   have b5:I.n.op≠13:=by
    obtain⟨m,l⟩:=I;exact c0.tm.2.2
   rw[show row (.mk f [H,I])=f::(row H++row I) by simp[row,rows]]at E X Y L;simp only[List.cons_append,List.append_assoc,JV,JK]at E X Y L;obtain⟨c8,e3,c3⟩:=DX E;have c9:wT one cM (.mk f [H,I]) ((d:Int)+arC n 0 i) n.b (u7,l7)=match wT one cM H d 0 (u7,l7++[f])with
     |none=>none
     |some s1=>wT one cM I ((d+Bn:Nat):Int) 0 s1:=by
    have c':bh n i=0:=by simp[bh,C]
    simp only[wT,f13,or_true,if_true,cM,wK];rw[mU a9,c',show arC f n.b 0=0 by simp[arC,f13],show arC f n.b (0+1)=n.b by simp[arC,f13],yU b4 _ f.b 0,Int.add_zero,Int.add_zero];cases wT one cM H (d:Int) 0 (u7,l7++[f])with
    |none=>rfl
    |some s1=>
     simp only;rw[yU b5 _ f.b 0,c2,show (d:Int)+(Bn:Int)=((d+Bn:Nat):Int) by omega];cases wT one cM I ((d+Bn:Nat):Int) 0 s1<;>rfl
   rw[c9]at b;have d':G*1<=G*(rows ks).length:=Nat.mul_le_mul_left _ Uo;simp only[Nat.mul_add,Nat.mul_one]at X d';refine vm (p:=ndP) p7 c8 ?_;refine bi ?_;refine vk ?_;refine vi ?_;have o:=ih (row H).length Uo H (row I++(rows r++j)) (p7+1) u7 (l7++[f]) d (KJ _) b' c3 Uo (by rw[JK];simp only[JV,JU];omega);simp only[wM,m9,KB]at o;cases K:wT one cM H d 0 (u7,l7++[f])with
   |none=>
    rw[K]at o b;subst b;refine mL (λk=>sw 0 50 k) o ?_;exact rfl
   |some s1=>
   rw[K]at o b;obtain⟨u8,l8⟩:=s1;have a1:=vg hG w H _ _ _ _ _ _ K;rw[JK]at a1;simp only[JV,JU]at a1;refine aT (λk=>sw 0 50 k) (zS 94) o ?_;refine vi ?_;rw[c2];have a8:t.drop (p7+1+(row H).length)=row I++(rows r++j):=by rw[<- List.drop_drop,c3,List.drop_left]
   have a4:=ih (row I).length Uo I (rows r++j) (p7+1+(row H).length) u8 l8 (d+Bn) (KJ _) c0 a8 Uo Uo;cases a2:wT one cM I ((d+Bn:Nat):Int) 0 (u8,l8)with
   |none=>
    rw[a2]at a4;rw[show a3=none from b.symm.trans (by simp only;rw[a2])];refine mL (λk=>sw 0 10 k) a4 ?_;exact rfl
   |some s2=>
   rw[a2]at a4;obtain⟨u9,l9⟩:=s2;have b:wK one cM r n 0 ((i:Int)+1) d (u9,l9)=a3:=by rw[<- b];simp only;rw[a2]
   have e0:=vg hG w I _ _ _ _ _ _ a2;refine aT (λk=>sw 0 10 (sw 10 11 k)) (zS 94) a4 ?_;refine vi ?_;exact aw (i+1,p7+1+(row H).length+(row I).length,u9,l9,r) ⟨by show i+1<=_;omega,by show r.length=_;omega,b,by rw[<- List.drop_drop,a8,List.drop_left],by show l9.length+wt u9+G*(rows r).length<=M;omega,by show Q=p7+1+(row H).length+(row I).length+(rows r).length;omega,a7,a0,by show (rows r).length<=_;omega⟩ (f:=λk=>sw 0 11 k)
  have C:¬ n.op=12:=C;have D:¬ n.op=2:=λh=>by
   rw[b9 h]at g;simp at g;omega
  have F:Ok .tm y:=by rwa [show nx Md.tm n 0= .tm by simp[nx,D,C]]at F
  have g0:=yV n i;obtain⟨e1,c4⟩:∃e1:Nat,(d:Int)+bh n i=e1:=⟨((d:Int)+bh n i).toNat,Uo⟩
  have c5:y.n.op≠13:=by
   obtain⟨m,l⟩:=y;exact F.tm.2.2
  rw[mU a9,c4,yU c5 _ n.b 0]at b;have o:=ih (row y).length Uo y (rows r++j) p7 u7 l7 e1 (KJ _) F E Uo Uo;refine ae (EY n i) ?_;refine vi ?_;rw[c4];cases K:wT one cM y e1 0 (u7,l7)with
  |none=>
   rw[K]at o b;subst b;refine mL id o ?_;refine vk ?_;exact rfl
  |some s1=>
   rw[K]at o b;obtain⟨u8,l8⟩:=s1;have a1:=vg hG w y _ _ _ _ _ _ K;refine aT id (zS 94) o ?_;refine vk ?_;refine vi ?_;exact aw (i+1,p7+(row y).length,u8,l8,r) ⟨by show i+1<=_;omega,by show r.length=_;omega,b,by rw[<- List.drop_drop,E,List.drop_left],by show l8.length+wt u8+G*(rows r).length<=M;omega,by show Q=p7+(row y).length+(rows r).length;omega,a7,a0,by show (rows r).length<=_;omega⟩ (f:=λk=>sw 0 10 k)
end
end Go.Q
namespace Go.Wx
theorem vh{P:Program}{f:FuncId}{i:List Nat}{m:List (Nat×SE)}(j:dM P f)(h:∀vs:List Value,vs.length=i.length ->∀w,CallsD P f vs.toArray .returning w λe l w'=>(∃v,e= .returned v)/\l= .returning/\Kp [] w w'):VD P f .returning i m m:=⟨j,λw X C ρ q=>(h (i.map ρ) Ud w).mono λe l w' ⟨r,s,d⟩=>⟨r,by rw[s];rfl,C,ρ,by
 have:=q.grow d (q.sub.kp d λ_ _ _ _ h=>by cases h) (λ_ _ _ h=>h) λb o v h=>.inl ⟨o,v,h⟩;exact⟨λt a z=>(by cases z),λk x d=>(by have:=this.ent k x d;cases x<;>exact this),this.sep,this.off,this.sub,this.c0,this.cn,this.kp⟩⟩⟩
theorem vj{P:Program}{w:World}{X:List Nat}{C:Mem}{ρ:Nat ->Value}{j:List Nat}{m m2:List (Nat×SE)}{n q p k T:Nat}{z:Int}{d:Code}{l:Act}(O:Rp w X C ⟨ja' (jD j) 0,m⟩ ⟨ini (j.map ρ) 0,[]⟩ w C ρ)
  (h:VCode P n d ⟨(p,.c (.p (.bool true)))::(q,.c (.ptr k 0))::ja' (jD j) 0,(k,.st 0 T [.p (pI z)])::m⟩ λe A=>e= .normal/\kI id A m2) (R:Fr n l ⟨(p,.bool true)::(q,.pointer (some ⟨w.heap.size,0,none⟩))::ini (j.map ρ) 0,[]⟩) (r:jZ ⟨ja' (jD j) 0,m⟩ [k]=true:=by rfl) (s:da id (keysOf m2)=true:=by rfl):
  d.wp P (λe I w'=>e= .normal/\∃s',Fr n I s'/\s'.d=[]/\∃C' ρ',Rp w X C ⟨[],m2⟩ ⟨[],[]⟩ w' C' ρ') l (w.alloc (Obj.cells #[.int .i64 z] T)):=by
 have r:=rU r k Ud;have V:=O.fresh (s':=⟨(q,.pointer (some ⟨w.heap.size,0,none⟩))::ini (j.map ρ) 0,[]⟩) (w':=w.alloc (Obj.cells #[.int .i64 z] T)) (v:=.pointer (some ⟨w.heap.size,0,none⟩)) (x:=.st 0 T [.p (pI z)]) (wr:=[(q,.c (.ptr k 0))]) r (Kp.alloc _ _) (λg W=>Nat.le_of_eq (JB W)) ⟨w.heap.size,[.int .i64 z],gj _ _ _,by
  show (w.heap.push _)[_]?=_;simp,.inl ⟨rfl,KJ _⟩,rfl,λi c u K Y=>by
   cases i with
   |zero=>
    obtain rfl:=JB K;obtain rfl:=JB Y;exact⟨rfl,λ_=>RV.int _ _⟩
   |succ i=>simp at K⟩ (λt a D=>by
  obtain⟨rfl,rfl⟩:=bI D;exact⟨_,by rw[eV,Nat.beq_refl],_,gj _ _ _,rfl⟩) λt b=>by
  rw[cI]at b;rw[eV];cases E:Nat.beq q t with
  |true=>rw[E]at b;cases b
  |false=>rfl
 have Z:=V.slots (s':=⟨(p,.bool true)::(q,.pointer (some ⟨w.heap.size,0,none⟩))::ini (j.map ρ) 0,[]⟩) (wr:=[(p,.c (.p (.bool true)))]) (λt a D _=>by
  obtain⟨rfl,rfl⟩:=bI D;exact⟨_,by rw[eV,Nat.beq_refl],RV.bool _⟩) λt b=>by
  rw[cI]at b;rw[eV];cases E:Nat.beq p t with
  |true=>rw[E]at b;cases b
  |false=>rfl
 have L:=h.run _ _ _ _ _ ⟨C,_,Z⟩;unfold EvCode at L;refine Go.wp_mono (L l R) λe I w' ⟨s',F,hd,A',⟨he,hm⟩,H⟩=>⟨he,s',F,hd,?_⟩
 obtain⟨C',ρ',o⟩:=H.le (iu (f:=id) (B:=⟨[],m2⟩) VQ hm s);exact⟨C',ρ',λt a b=>(by cases b),o.ent,o.sep,o.off,o.sub,o.c0,o.cn,o.kp⟩
end Go.Wx
namespace Go.Q
theorem EA':VD prog 210 .returning [0,1] [] []:=by
 refine vh ⟨_,func210,rfl,UO⟩ λo i w=>?_;obtain⟨v0,q,rfl⟩:=uX i;refine callsD_of_wpS func210 rfl λb r d=>?_;apply wpS_seq;apply wpS_region;simp[wpOpsS,go_sem,recoverD,d,Exit.thenS,Instr.typeAssert,underlying267,Tryz.zeroValue267];refine wpS_of_wp (Go.wp_mono (mC τok (n:=12) _ ⟨[(3,.bool false)],[]⟩ _ (λe s h=>e= .normal/\s.d=[]/\Kp [] w h) ?_ _ (lH Ud rfl Ud)) ?_)
 ·exact⟨rfl,rfl,Kp.alloc _ _⟩
 rintro e v h ⟨s,j,rfl,k,l⟩;exact qm j k rfl d ⟨⟨_,rfl⟩,rfl,l⟩
def wc(x y:PV):List (Nat×SE):=[(0,.st 1 29 [.p x]),(1,.st 2 35 [.p y])]
theorem Lt(er:Int){x y:PV}:VD prog 210 (.panicking (sp er)) [0,1] (wc x y) (wc (.raw (.slice none 0 0)) (pI er)):=by
 refine⟨⟨_,func210,rfl,UO⟩,λw X C ρ h=>?_⟩;refine callsD_of_wpS func210 rfl λd v i=>?_;apply wpS_seq;apply wpS_region;simp[wpOpsS,go_sem,recoverD,i,Exit.thenS,Instr.typeAssert,underlying267,Tryz.zeroValue267];refine wpS_of_wp (Go.wp_mono (vj (n:=12) (m2:=wc (.raw (.slice none 0 0)) (pI er)) (q:=2) (p:=3) (k:=2) h (aj ?_) (lH Ud rfl (by simp[ini]))) ?_)
 ·refine vk ?_
  exact⟨rfl,rfl,rfl,trivial⟩
 rintro e z D ⟨rfl,s,j,l,o,b,r⟩;exact uH j l rfl ⟨⟨_,rfl⟩,rfl,o,b,r⟩
def oA:Bool ->AV
 |true=>.c (.row 0)
 |false=>.c (.p (.raw (.slice none 0 0)))
def oM(l:List Nd)(m:List (Nat×SE)):Bool ->List (Nat×SE)
 |true=>(0,m9 l)::m
 |false=>m
def hW:Nat ->Nat
 |1=>3
 |2=>8
 |3=>5
 |5=>9
 |k=>k
def wR{σ:Type}(c:σ ->List (Nat×List AC))(er:Int):Option (σ×List Nd) ->AV×List (Nat×SE)
 |some s=>(.tp [.row 10,.p (pI 0)],(10,m9 s.2)::exL (c s.1) 100 1)
 |none=>(.c (.p (.tup [.sl [],pI er])),[])
section
variable{σ:Type}(c:σ ->List (Nat×List AC))(f:FuncId)
theorem zT(h:zR c)(wt:σ ->Nat)(one:σ×List Nd ->Nd ->Int ->Option (σ×List Nd))(M:Nat)(er:Int)(G:Nat)(s:1<=G)(v:M<=100000000)(i:One c f wt one M er)(e:∀u l n d o l',one (u,l) n d=some (o,l') ->l'.length+wt o<=l.length+wt u+G)
  (b:Bool) (x:Tr) (w:Ok .tm x) (q:(row x).length<=20000) (u:σ) (l:List Nd) (hb:b=false ->l=[]) (hl:l.length+wt u+G*(row x).length<=M):VG prog 170 [.c (.p (ah (row x))),oA b,.c (.fn f [100,101])] (oM l (exL (c u) 100 1) b) (.ok (wR c er (wT one cM x 0 0 (u,l)))):=by
 have j:=Ls c f (row x) h wt one M er G s v i e Uo _ x [] 0 u l 0 (KJ _) w Ud Uo hl;rw[show ((0:Nat):Int)=0 from rfl]at j
 generalize wT one cM x 0 0 (u,l)=r at j ⊢
 rcases r with _|⟨o,l'⟩
 all_goals
  obtain⟨z,C,D,E,F,g,H,I,K,L,rfl|rfl|rfl|rfl⟩:=h
  all_goals
   cases b
   all_goals
    refine pf 15 [.cell 6 29,.cell 7 35] τok func170 ?_;refine aj<|⟨⟨rfl,rfl,rfl⟩,rfl,λfv=>?_⟩
    first
     |obtain rfl:=hb rfl
      refine lF 4 0 0 46 3 rfl rfl rfl UO ?_
     |skip
    refine aj ?_
    first
     |refine mL hW j ?_
      refine jn (λk=>k+6) (λ_=>0) (Lt er) ?_;exact .inl ⟨_,_,_,id,rfl,rfl,rfl,rfl,trivial,rfl⟩
     |refine aT hW (λk=>k-99) j ?_
      refine jn (λk=>k+6) (λ_=>0) EA' ?_;exact .inr ⟨_,id,rfl,rfl,by repeat first|exact VQ|refine And.intro rfl ?_,rfl⟩
end
theorem Lu(t:List Nd)(H:t.length<=1000000000)(d c:Nat)(ha:d<=2000000000)(hc:c<=1000):VC prog 169 [ah t,pI d,pI c] (pI (opI (gX t c (-1) d))):=by
 have I:=au ndP t;generalize o:opI (gX t c (-1) d)=e;refine vf 49 [.tmp 6] τok func169 ?_;refine vl τok (σ:=Nat×Int×Nat) [(0,_),(8,_)] (λq=>[(1,vI q.2.2),(7,vI q.2.1),(9,vI q.1)]) (λq=>q.1<=c/\q.2.2<=max d t.length/\opI (gX t (c-q.1) q.2.1 q.2.2)=e) (λq=>c-q.1) (0,-1,d) ⟨KV _,Nat.le_max_left _ _,o⟩ ?_;rintro⟨i,j,p⟩ ⟨E,F,b⟩;simp only at E F b;have w:opI none=e ->ge' [PV.nz (pI (-1))]=pI e:=λh=>by rw[<- h];rfl
 refine af (λg=>?_) (λg=>?_);rotate_left
 ·rw[show c-i=0 by omega]at b
  exact⟨_,_,rfl,rfl,KG (PV.int .i64) b⟩
 obtain⟨k,z⟩:∃k,c-i=k+1:=⟨c-i-1,Uo⟩
 rw[z]at b;simp only[gX]at b;refine af (λr=>?_) (λr=>?_)
 ·have r:(p:Int)≥((t.map ndP).length:Int):=r
  rw[QF Uo]at b;exact⟨_,_,rfl,rfl,w b⟩
 have r:¬ (p:Int)≥((t.map ndP).length:Int):=r;obtain⟨n,s,_⟩:=ay (l:=t) (k:=p);rw[s]at b;simp only at b;refine vm p s ?_;refine af (λC=>?_) (λC=>?_)
 ·rw[KY λq=>C q.1]at b
  exact⟨_,_,rfl,rfl,w b⟩
 refine vm p s ?_;refine bV (zM n) (λD=>?_) (λD=>?_);rotate_left
 ·rw[KY λq=>by rw[D]at q;exact absurd q.2.1 UO]at b
  exact⟨_,_,rfl,rfl,w b⟩
 refine vm p s ?_;refine af (λv=>?_) (λv=>?_)
 ·have v:n.a<=j:=v
  rw[KY λq=>by have:=q.2.2;omega]at b;exact⟨_,_,rfl,rfl,w b⟩
 have v:¬ n.a<=j:=v;rw[KX ⟨QY C,D,Uo⟩]at b;refine vm p s ?_;refine vi ?_;refine vi ?_;exact aw (i+1,n.a,p+1) ⟨by show i+1<=c;omega,by show p+1<=max d t.length;omega,by show opI (gX t (c-(i+1)) n.a (p+1))=e;rw[show c-(i+1)=k by omega];exact b⟩
theorem E2(t:List Nd)(ht:t.length<=1000000000):∀(N:Nat) (w:Int),-1<=w ->w<=1000000000 ->(0<=w ->t.length-w.toNat<=N) ->VC prog 122 [ah t,pI w] (pI (ql t w)):=by
 intro N
 induction N using Nat.strongRecOn with
 |_ N ih=>
 intro w a4 a5 hN;have eT:=au ndP t;refine vf 90 [.tmp 4] τok func122 ?_;refine af (λg0=>?_) (λg0=>?_)
 ·exact aE (h3:=by unfold ql;rw[KX g0];rfl)
 obtain⟨b,rfl⟩:∃n:Nat,w=n:=⟨w.toNat,Uo⟩
 have hN:t.length-b<=N:=hN Uo;rw[sn];generalize d:opI (endS t .tm b)=j;have e:(∀m,t[b]?=some m ->cnt .tm m=none) ->ge' [PV.nz (pI (-1))]=pI j:=λh=>by
  rw[uG t .tm h]at d;rw[<- d]
  rfl
 refine af (λg1=>?_) (λg1=>?_)
 ·exact⟨_,_,rfl,rfl,e λn s=>by rw[QF Uo]at s;cases s⟩
 have K:b<t.length:=Uo
 obtain⟨n,s,_⟩:=ay K;have W:(∀m,m=n ->cnt .tm m=none) ->ge' [PV.nz (pI (-1))]=pI j:=λh=>e λm v=>h m (by rw[s]at v;exact(JB v).symm);refine vm b s ?_;refine bV (zM n) (λE=>?_) (λE=>?_);rotate_left
 ·exact⟨_,_,rfl,rfl,W λm h=>by subst h;simp[cnt,E]⟩
 refine vm b s ?_;refine af (λX=>?_) (λX=>?_)
 ·exact⟨_,_,rfl,rfl,W λm h=>by subst h;simp[cnt,X]⟩
 refine vm b s ?_;refine af (λY=>?_) (λY=>?_)
 ·exact⟨_,_,rfl,rfl,W λm h=>by subst h;simp[cnt,Y]⟩
 refine vm b s ?_;refine vi ?_;have L:=dn E;refine af (λF=>?_) (λF=>?_)
 ·obtain⟨c,O⟩:∃c:Nat,n.b=c:=⟨n.b.toNat,Uo⟩
  rw[DL t s F E,O,Int.toNat_natCast]at d;have:=Lu t ht (b+1) c Uo Uo;rw[d,<- O]at this;refine ae this ?_;exact aE
 have a6:=nX E;refine ae (zN n ⟨L.1,L.2.1⟩) ?_;obtain⟨c,O⟩:∃c:Nat,bv n=c:=⟨(bv n).toNat,Uo⟩
 rw[O];have Z:cnt .tm n=some c:=by simp[cnt,E,X,Y,F,O]
 obtain⟨C,l⟩:∃C,C=(if n.op=12 then Md.fn else Md.tm):=⟨_,rfl⟩
 rw[sj t .tm s Z (λ_=>F) (s':=C) (λk=>by simp[nx,F,l]) F]at d;refine aB τok (σ:=Nat×Nat) [(0,_),(5,_),(53,_)] [(5,_)] (λq=>[(1,vI q.2),(54,vI q.1)]) (λ_=>[]) (λq=>q.1<=c/\b<q.2/\q.2<=t.length/\opI (gW t C (c-q.1) q.2)=j) (λq=>c-q.1) (0,b+1) ⟨KV _,Nat.lt_succ_self _,K,d⟩ ?_
 clear d
 rintro⟨i,p⟩ ⟨hi,a0,a1,o⟩;simp only at hi a0 a1 o;refine aD<|af (λg=>?_) (λg=>?_);rotate_left
 ·rw[show c-i=0 by omega]at o
  exact aj<|⟨_,_,rfl,rfl,KG (PV.int .i64) o⟩
 obtain⟨k,a2⟩:∃k,c-i=k+1:=⟨c-i-1,Uo⟩
 rw[a2]at o;simp only[gW]at o;refine aD<|VCode.seq (VCode.blk<|eo τok (σ:=Option Nat) [(0,_),(5,_),(53,_),(54,_)] [(5,_)] (λr=>[(1,vI (opI r))]) (λ_=>[]) (λr=>(∀z,r=some z ->p<=z/\z<=t.length)/\opI ((r.bind λa=>endS t .tm a).bind λa=>gW t C k a)=j) ?_ ?_)
 ·refine af (λD=>?_) (λD=>?_)
  ·rw[KX D]at l
   have R:(∀m,t[p]?=some m ->cnt .fn m=none) ->ge' [PV.nz (pI (-1))]=pI j:=λh=>by
    rw[l,uG t .fn h]at o;rw[<- o]
    rfl
   refine af (λq1=>?_) (λq1=>?_)
   ·exact⟨_,_,rfl,rfl,R λm v=>by rw[QF Uo]at v;cases v⟩
   have T:p<t.length:=Uo
   obtain⟨m,v,_⟩:=ay T;have V:(∀x,x=m ->cnt .fn x=none) ->ge' [PV.nz (pI (-1))]=pI j:=λh=>R λx hx=>h x (by rw[v]at hx;exact(JB hx).symm);refine vm p v ?_;refine af (λH=>?_) (λH=>?_)
   ·exact⟨_,_,rfl,rfl,V λx h=>by subst h;simp[cnt,H]⟩
   have H:m.op=13:=QY H;refine vm p v ?_;refine bV (zM m) (λq3=>?_) (λq3=>?_);rotate_left
   ·exact⟨_,_,rfl,rfl,V λx h=>by subst h;simp[cnt,q3]⟩
   refine vi ?_;have a3:endS t C p=gW t .tm 2 (p+1):=by
    rw[l];exact sj t .fn v (c:=2) (by simp[cnt,H,q3]) (λh=>by cases h) (s':=.tm) (λk=>rfl) (by rw[H];decide)
   rw[a3]at o;simp only[gW]at o;have h7:=ih (t.length-(p+1)) Uo ((p+1:Nat):Int) Uo Uo (λ_=>Uo);rw[sn]at h7;refine ae h7 ?_;refine aw (endS t .tm (p+1)) ⟨λz I=>by have:=DM I;omega,?_⟩;rw[<- o];cases endS t .tm (p+1)with
   |none=>rfl
   |some z=>cases h:endS t .tm z<;>simp[h]
  ·rw[KY D]at l
   refine aw (some p) ⟨λz I=>by cases I;omega,?_⟩;rw[<- o,l];cases h:endS t .tm p<;>simp[h]
 rintro r ⟨m1,m2⟩;refine aj ?_;have h9:=ih (t.length-p) Uo (opI r) (by cases r<;>simp only[opI]<;>omega) (by cases r with
  |none=>simp[opI]
  |some z=>have:=m1 z rfl;simp only[opI];omega) (λ_=>by cases r with
  |none=>simp[opI]at *
  |some z=>have:=m1 z rfl;simp only[opI,Int.toNat_natCast];omega)
 have e9:ql t (opI r)=opI (r.bind λa=>endS t .tm a):=by cases r with
  |none=>rfl
  |some z=>exact sn t z
 rw[e9]at h9;refine ae h9 ?_;have m3:∀z,(r.bind λa=>endS t .tm a)=some z ->p<z/\z<=t.length:=λz I=>by
  cases r with
  |none=>cases I
  |some y=>
   have:=m1 y rfl;have:=DM I;omega
 generalize (r.bind λa=>endS t .tm a)=r9 at *
 refine af (λg9=>?_) (λg9=>?_)
 ·cases r9 with
  |none=>exact⟨_,_,rfl,rfl,KG (PV.int .i64) m2⟩
  |some z=>exact absurd g9 (by simp only[opI];omega)
 cases r9 with
 |none=>exact absurd (show opI none<0 by decide) g9
 |some z=>
  have:=m3 z rfl;refine aj<|vi ?_;exact aw (i+1,z) ⟨by show i+1<=c;omega,by show b<z;omega,by show z<=t.length;omega,by show opI (gW t C (c-(i+1)) z)=j;rw[show c-(i+1)=k by omega];exact m2⟩
theorem Lw(t:List Nd):ql t 0=opI (endS t .tm 0):=sn t 0
theorem kT(t:List Nd)(e:t.length<=1000000000):VC prog 81 [ah t] (pI (fF t)):=by
 have i:=au ndP t;refine vf 11 [.tmp 2] τok func81 ?_;refine af (λg=>?_) (λg=>?_)
 ·exact aE (h3:=by unfold fF;rw[KX Uo];rfl)
 refine ae (E2 t e t.length 0 UO UO λ_=>Uo) ?_;have d:=DP t;rw[Lw];refine af (λb=>?_) (λb=>?_)
 ·exact aE (h3:=by unfold fF;rw[KY Uo,KY λq=>b (by rw[d.2 q,i];rfl)];rfl)
 ·refine⟨_,_,rfl,rfl,?_⟩
  have b:opI (endS t .tm 0)=((t.map ndP).length:Int):=QY b;unfold fF;rw[KY Uo,KX (d.1 ?_)]
  ·rfl
  ·cases h:endS t .tm 0 with
   |none=>rw[h]at b;simp only[opI]at b;omega
   |some z=>rw[h]at b;simp only[opI]at b;congr 1;omega
def zW{σ:Type}(_:σ):Nat:=0
theorem qv{l:List Nd}{m:Nd}:l.map ndP++[ndP m]=(l++[m]).map ndP:=by rw[KB];rfl
theorem Lx{T:Type}{fr by_:Int}{M:Nat}(q:0<=fr/\fr<=4194304)(hb:0<=by_/\by_<=4611686018427387904)(s:M<=100000000):One (λ_:T=>[(3,[.p (pI fr)]),(3,[.p (pI by_)])]) 201 zW (iO (gr by_ fr)) M 6:=by
 intro u l n d j v z;have o:=dn j;generalize b:iO (gr by_ fr) (u,l) n d=r;unfold iO at b;refine cJ 36 [.tmp 8] τok func201 ?_;refine aD ?_
 by_cases e:n.op=1
 ·rw[KX e]at b
  unfold gr at b
  by_cases h:n.a≥fr+(d:Int)
  ·rw[KX h]at b
   by_cases i:by_>1048576-n.a
   ·rw[KX i]at b
    subst b;refine aj<|vy ?_ e;refine vi ?_;refine vy ?_ h;refine vi ?_;refine vy ?_ i;exact qe (λw=>by simp[Instr.makeInterface,underlying267,go_sem])<|rfl
   ·rw[KY i]at b
    obtain rfl:r=some (u,l++[{n with a:=n.a+by_}]):=by rw[<- b];simp[row,rows]
    refine aj<|vy ?_ e;refine vi ?_;refine vy ?_ h;refine vi ?_;refine vn ?_ i;refine vi ?_;refine bi ?_;exact .inr ⟨_,λk=>sw 10 35 k,rfl,rfl,⟨KG (λl=>some (SE.rw _ _ l)) (qv (m:={n with a:=n.a+by_})),rfl,rfl,trivial⟩,rfl⟩
  ·rw[KY h]at b
   obtain rfl:r=some (u,l++[n]):=by rw[<- b];simp[row,rows]
   refine aj<|vy ?_ e;refine vi ?_;refine vn ?_ h;refine bi ?_;exact .inr ⟨_,λk=>sw 10 35 k,rfl,rfl,⟨KG (λl=>some (SE.rw _ _ l)) qv,rfl,rfl,trivial⟩,rfl⟩
 ·rw[KY e]at b
  obtain rfl:r=some (u,l++[n]):=b.symm;refine aj<|vn ?_ e;refine bi ?_;exact .inr ⟨_,λk=>sw 10 35 k,rfl,rfl,⟨KG (λl=>some (SE.rw _ _ l)) qv,rfl,rfl,trivial⟩,rfl⟩
theorem Ly{by_ fr:Int}:∀(u:Unit) l n d b l',iO (gr by_ fr) (u,l) n d=some (b,l') ->l'.length+zW b<=l.length+zW u+1:=λu l n d b l' e=>y6 (KJ 1) (λd n y e=>by rw[D0 e];exact KJ _) u l n d b l' e
def bR(l:List Nd)(er:Int):Option Tr ->AV×List (Nat×SE)
 |some y=>(.tp [.row 10,.p (pI 0)],[(10,m9 (l++row y))])
 |none=>(.c (.p (.tup [.sl [],pI er])),[])
theorem E3(b:Bool){x:Tr}(i:Ok .tm x)(d:(row x).length<=20000)(l:List Nd)(hb:b=false ->l=[])(hl:l.length<=90000000){by_ fr:Int}(j:0<=fr/\fr<=4194304)(e:0<=by_/\by_<=4611686018427387904):VG prog 147 [oA b,.c (.p (ah (row x))),.c (.p (pI by_)),.c (.p (pI fr))] (oM l [] b) (.ok (bR l 6 (lG x by_ fr))):=by
 have h:=zT _ _ ⟨_,_,0,0,0,0,_,_,λ_=>.unk,λ_=>.unk,.inl rfl⟩ zW (iO (gr by_ fr)) 100000000 6 1 (KJ _) (KJ _) (Lx j e (KJ _)) Ly b x i d () l hb (by unfold zW;omega);rw[Hd' x .tm 0 0 () l i.1,show gT (gr by_ fr) x 0 0=lG x by_ fr from rfl]at h
 generalize lG x by_ fr=r at h ⊢
 rcases r with _|y
 all_goals
  cases b
  all_goals
   refine cJ 16 [.tmp 8,.tmp 9] τok func147 ?_;refine aj<|aT (λk=>sw 100 7 (sw 101 6 k)) (λ_=>0) h ?_
   first
    |exact .inl ⟨_,_,_,id,rfl,rfl,rfl,rfl,trivial,rfl⟩
    |exact .inr ⟨_,id,rfl,rfl,⟨rfl,trivial⟩,rfl⟩
theorem E4{x:Tr}(d:Ok .tm x)(e:eu x)(b:(row x).length<=4096){by_ fr:Int}(hb:0<=by_/\by_<=500000)(j:0<=fr/\fr<=1048577):VC prog 85 [ah (row x),pI by_,pI fr] (.tup [ah (row (aK x by_ fr)),pI 0]):=by
 have h:=E3 false d Uo [] (λ_=>rfl) Ud (by_:=by_) (fr:=fr) Uo Uo;rw[n8 d e hb.2]at h;have i:=kT (row x) Uo;rw[kN d b]at i;refine vf 27 [.tmp 6,.tmp 7] τok func85 ?_;refine ae i ?_;refine vn ?_ UO;refine vn ?_;refine vn ?_;refine aT id (λ_=>0) (show VG _ _ [_,_,.c (.p (pI by_)),.c (.p (pI (min fr 1048577)))] _ _ by rw[show min fr 1048577=fr by omega];exact h) ?_;exact aE
section
variable{S:Type}
def E5(c:S ->List (Nat×List AC))(ks:List Nat):Prop:=∃(T0 T1 T2:Nat) (p0 p1 p2:S ->PV),
 (c=λu=>[(T0,[.p (p0 u)])])/\ks=[102] \/(c=λu=>[(T0,[.p (p0 u)]),(T1,[.p (p1 u)]),(T2,[.p (p2 u)])])/\ks=[102,103,104] \/(c=λu=>[(T0,[.p (p0 u)]),(T1,[.p (p1 u)])])/\ks=[102,103]
def sE(c:S ->List (Nat×List AC))(g:FuncId)(ks:List Nat)(wt:S ->Nat)(met:S ->Int ->Int ->S×Bool)(M:Nat):Prop:=
 ∀(s:S) (a:Int) (d:Nat),0<=a ->a<=1048576 ->d<=100000 ->wt s<=M ->VG prog g (.c (.p (pI a)):: .c (.p (pI d))::jD ks) (exL (c s) 102 1) (.ok (.c (.p (.bool (met s a d).2)),exL (c (met s a d).1) 102 1))
def eC(c:S ->List (Nat×List AC))(g:FuncId)(ks:List Nat)(p:Bool×S):List (Nat×List AC):=(4,[.p (.bool p.1)])::(187,[.fn g ks])::c p.2
variable{c:S ->List (Nat×List AC)}{g:FuncId}{ks:List Nat}{wt:S ->Nat}{met:S ->Int ->Int ->S×Bool}{M:Nat}
theorem Lz(i:E5 c ks)(b:sE c g ks wt met M)(v:M<=1000000):One (eC c g ks) 171 (λp=>wt p.2) (nZ met) M 6:=by
 rintro⟨j,s⟩ l n d o q r;have e:=dn o;simp only[nZ];obtain⟨w,z,C,D,E,F,⟨rfl,rfl⟩|⟨rfl,rfl⟩|⟨rfl,rfl⟩⟩:=i
 all_goals
  refine cJ 23 [.tmp 8] τok func171 ?_;cases j
  ·by_cases h:n.op=1
   ·rw[KX h]
    refine aj<|vy ?_ h;refine aT id (λk=>k-99) (b s n.a d e.2.2.1 e.2.2.2 q (by simp only at r;omega)) ?_;exact .inr ⟨_,λk=>sw 10 0 k,rfl,rfl,by repeat first|exact VQ|refine And.intro rfl ?_,rfl⟩
   ·rw[KY h]
    refine aj<|vn ?_ h;exact .inr ⟨_,λk=>sw 10 0 k,rfl,rfl,by repeat first|exact VQ|refine And.intro rfl ?_,rfl⟩
  ·rw[show (if n.op=1 then nY met (true,s) n.a d else (true,s))=(true,s) by simp[nY]]
   exact aj<|.inr ⟨_,λk=>sw 10 0 k,rfl,rfl,by repeat first|exact VQ|refine And.intro rfl ?_,rfl⟩
theorem zU(b:E5 c ks)(h:sE c g ks wt met 1000000)(q:∀s a d,wt (met s a d).1<=wt s+1){x:Tr}(D:Ok .tm x)(i:(row x).length<=20000)(s:S)(I:wt s<=900000):VG prog 125 [.c (.p (ah (row x))),.c (.fn g ks)] (exL (c s) 102 1) (.ok (.c (.p (.bool (gD met (false,s) (varsT x 0 0)).1)),exL (c (gD met (false,s) (varsT x 0 0)).2) 102 1)):=by
 have r:zR (eC c g ks):=by
  obtain⟨j,v,E,o,w,F,⟨rfl,rfl⟩|⟨rfl,rfl⟩|⟨rfl,rfl⟩⟩:=b
  ·exact⟨_,_,j,0,0,g,λp=>.bool p.1,λp=>o p.2,λ_=>.unk,λ_=>.unk,.inr (.inl rfl)⟩
  ·exact⟨_,_,j,v,E,g,λp=>.bool p.1,λp=>o p.2,λp=>w p.2,λp=>F p.2,.inr (.inr (.inl rfl))⟩
  ·exact⟨_,_,j,v,0,g,λp=>.bool p.1,λp=>o p.2,λp=>w p.2,λ_=>.unk,.inr (.inr (.inr rfl))⟩
 have z:=zT (eC c g ks) 171 r (λp=>wt p.2) (nZ met) 1000000 6 1 (KJ _) UO (Lz b h (KJ _)) (λu l n d K H e=>by
  simp only[nZ,QZ,Prod.mk.injEq]at e;rw[<- e.1,<- e.2];split
  ·unfold nY
   split
   ·omega
   ·have:=q u.2 n.a d
    simp only;omega
  ·omega) false x D i (false,s) [] (λ_=>rfl) (by simp only[JU];omega)
 obtain⟨H,C⟩:=wT_e met x .tm 0 0 (false,s) [] D.1;rw[C]at z
 generalize gD met (false,s) (varsT x 0 0)=p at z ⊢
 obtain⟨j,v,E,o,w,F,⟨rfl,rfl⟩|⟨rfl,rfl⟩|⟨rfl,rfl⟩⟩:=b
 all_goals
  refine cJ 10 [.tmp 4] τok func125 ?_;refine aj<|aT (λk=>sw 100 5 (sw 101 3 k)) (λk=>k-101) z ?_;exact .inl ⟨_,_,_,id,rfl,rfl,rfl,rfl,by repeat first|exact VQ|refine And.intro rfl ?_,rfl⟩
end
theorem LA(n:Int):sE (λ_:Unit=>[(3,[.p (pI n)])]) 126 [102] zW (λ_ a d=>((),decide (max n 0<=a-d))) 1000000:=by
 intro s a d e b i _;refine cJ 12 [.tmp 5] τok func126 ?_;refine aj<|vi ?_;refine af (λh=>?_) (λh=>?_)
 ·exact .inl ⟨_,_,_,id,rfl,rfl,rfl,KG PV.bool (KU h).symm,⟨rfl,trivial⟩,rfl⟩
 ·exact .inl ⟨_,_,_,id,rfl,rfl,rfl,KG PV.bool (KH h).symm,⟨rfl,trivial⟩,rfl⟩
theorem LB{x:Tr}(e:Ok .tm x)(b:(row x).length<=4096)(n:Int):VC prog 69 [ah (row x),pI n] (.bool (kK x n)):=by
 have h:=kT (row x) Uo;rw[kN e b]at h;have i:=zU ⟨_,0,0,λ_=>pI n,λ_=>.unk,λ_=>.unk,.inl ⟨rfl,rfl⟩⟩ (LA n) (λ_ _ _=>KV _) e Uo () (KV _);rw[uI λa d=>decide (max n 0<=a-d),Bool.false_or]at i;refine vf 14 [.tmp 4] τok func69 ?_;refine ae h ?_;refine vy ?_ rfl;refine aT (λk=>sw 102 3 k) (λ_=>0) i<|⟨_,_,rfl,rfl,?_⟩;show PV.bool _=_;unfold kK;rw[List.any_eq_not_all_not,Bool.not_not]
 congr 2
 funext q
 rw[<- decide_not];exact decide_eq_decide.2 Uo
def wS(s:Int×Int):Nat:=if s.1<0 then 2000000 else s.1.toNat
abbrev qw(v:Int)(s:Int×Int)(a d:Int):(Int×Int)×Bool:=(if a-d=v then (s.1+1,max s.2 d)else s,false)
abbrev LC(v:Int)(s:Int×Int):List (Nat×List AC):=[(3,[.p (pI v)]),(3,[.p (pI s.1)]),(3,[.p (pI s.2)])]
theorem LD(v:Int):sE (LC v) 219 [102,103,104] wS (qw v) 1000000:=by
 intro s a d i e j b;have k:0<=s.1/\s.1<=1000000:=by
  unfold wS at b;split at b<;>omega
 refine cJ 18 [.tmp 7] τok func219 ?_
 by_cases h:a-d=v
 ·rw[show qw v s a d=((s.1+1,max s.2 d),false) by simp[qw,h]]
  refine aj<|vi ?_;refine vy ?_ h;refine vi ?_;exact dD
 ·rw[show qw v s a d=(s,false) by simp[qw,h]]
  refine aj<|vi ?_;refine vn ?_ h;exact dD
theorem LF{v b:Int}(k:0<=v/\v<=300000)(i:0<=b/\b<=100000):sE (λ_:Unit=>[(3,[.p (pI v)]),(3,[.p (pI b)])]) 220 [102,103] zW (λ_ a d=>((),decide (d<=a) && decide (1048576<a-d+v+b))) 1000000:=by
 intro s a d l j o _;refine cJ 20 [.tmp 6] τok func220 ?_;refine aj<|af (λh=>?_) (λh=>?_)
 ·have h:(d:Int)<=a:=h
  refine vi ?_;refine vi ?_;refine vi ?_;refine af (λe=>?_) (λe=>?_)
  ·exact .inl ⟨_,_,_,id,rfl,rfl,rfl,KG PV.bool (show true=(decide ((d:Int)<=a) && decide (_<_)) by rw[KU h,KU e];rfl),⟨rfl,rfl,trivial⟩,rfl⟩
  ·exact .inl ⟨_,_,_,id,rfl,rfl,rfl,KG PV.bool (show false=(decide ((d:Int)<=a) && decide (_<_)) by rw[KH e,Bool.and_false]),⟨rfl,rfl,trivial⟩,rfl⟩
 ·have h:¬ (d:Int)<=a:=h
  exact .inl ⟨_,_,_,id,rfl,rfl,rfl,KG PV.bool (show false=(decide ((d:Int)<=a) && _) by rw[KH h];rfl),⟨rfl,rfl,trivial⟩,rfl⟩
theorem LG{u:Tr}(q:Ok .tm u)(j:eu u)(w:(row u).length<=4096){v:Int}(F:0<=v/\v<=300000):One (λ_:Unit=>[(3,[.p (pI v)]),(29,[.p (ah (row u))])]) 221 zW (iO (fG u v)) 90000000 6:=by
 intro s l n d C H D;have E:=dn C;generalize b:iO (fG u v) (s,l) n d=r;unfold iO at b;refine cJ 51 [.tmp 8] τok func221 ?_
 by_cases e:n.op=1
 ·rw[KX e]at b
  unfold fG at b
  by_cases i:n.a=v+(d:Int)
  ·rw[KX i]at b
   have z:=E3 true q Uo l (λh=>by cases h) (by unfold zW at D;omega) (by_:=v+d) (fr:=0) Uo Uo;rw[n8 q j Uo]at z;obtain rfl:r=some (s,l++row (aK u (v+d) 0)):=by
    rw[<- b];simp only[kM];rw[KX Uo]
   refine aj<|vy ?_ e;refine vi ?_;refine vy ?_ i;refine vi ?_;refine aT id (λ_=>0) z ?_;exact .inr ⟨_,id,rfl,rfl,⟨rfl,rfl,rfl,trivial⟩,rfl⟩
  ·rw[KY i]at b
   by_cases o:n.a>v+(d:Int)
   ·rw[KX ⟨o,Uo⟩]at b
    obtain rfl:r=some (s,l++[{n with a:=n.a-1}]):=by rw[<- b];simp[row,rows]
    refine aj<|vy ?_ e;refine vi ?_;refine vn ?_ i;refine vy ?_ e;refine vi ?_;refine vy ?_ o;refine vi ?_;refine bi ?_;exact .inr ⟨_,λk=>sw 10 50 k,rfl,rfl,⟨KG (λl=>some (SE.rw _ _ l)) (qv (m:={n with a:=n.a-1})),rfl,rfl,trivial⟩,rfl⟩
   ·rw[KY Uo]at b
    obtain rfl:r=some (s,l++[n]):=by rw[<- b];simp[row,rows]
    refine aj<|vy ?_ e;refine vi ?_;refine vn ?_ i;refine vy ?_ e;refine vi ?_;refine vn ?_ o;refine bi ?_;exact .inr ⟨_,λk=>sw 10 50 k,rfl,rfl,⟨KG (λl=>some (SE.rw _ _ l)) qv,rfl,rfl,trivial⟩,rfl⟩
 ·rw[KY e]at b
  obtain rfl:r=some (s,l++[n]):=b.symm;refine aj<|vn ?_ e;refine vn ?_ e;refine bi ?_;exact .inr ⟨_,λk=>sw 10 50 k,rfl,rfl,⟨KG (λl=>some (SE.rw _ _ l)) qv,rfl,rfl,trivial⟩,rfl⟩
theorem LH{x u:Tr}(w:Ok .tm x)(C:Ok .tm u)(i:eu u)(L:(row x).length<=4096)(j:(row u).length<=4096){v:Int}(O:0<=v/\v<=300000):VC prog 181 [ah (row x),ah (row u),pI v] (if gY x u v=true then .tup [.sl [],pI 9]else .tup [ah (row (fH x u v)),pI 0]):=by
 have D:=kT (row x) Uo;rw[kN w L]at D;have E:=kT (row u) Uo;rw[kN C j]at E;have W:=au ndP (row x);have R:=au ndP (row u);have o:=zU ⟨_,_,_,λ_=>pI v,λs=>pI s.1,λs=>pI s.2,.inr (.inl ⟨rfl,rfl⟩)⟩ (LD v) (λs a d=>by
  unfold qw wS;simp only;split
  ·simp only
   split<;>split<;>omega
  ·omega) w Uo (0,0) UO
 rw[D1 v]at o;have T:=y8 v (varsT x 0 0) (0,0) (4*(row x).length) UO UO Us λq K=>by
  have:=fr' x .tm 0 0 w.1 UO UO UO q K;omega
 have X:=gV' x 0 0;obtain⟨b,r⟩:∃b,pb x v=b:=⟨_,rfl⟩
 unfold pb at r;rw[r]at o T;obtain⟨t1,t2,t3,t4⟩:=T;simp only at t2;have F:=zU ⟨_,_,0,λ_=>pI v,λ_=>pI b.2,λ_=>.unk,.inr (.inr ⟨rfl,rfl⟩)⟩ (LF O ⟨t3,Uo⟩) (λ_ _ _=>KV _) C Uo () (KV _);rw[uI λa d=>decide (d<=a) && decide (1048576<a-d+v+b.2),Bool.false_or,List.any_eq_false.2 λq K=>by
  have h1:=i q K;have h2:=fr' u .tm 0 0 C.1 UO UO UO q K;simp;omega]at F
 refine cR 50 [.tmp 6,.tmp 7] τok func181 ?_;refine aD<|aD<|ae D ?_;refine vn ?_ UO;refine aD<|ae E ?_;refine vn ?_ UO;refine aD<|vn ?_;refine aD<|aD<|aD ?_;have Y:min v 1048577=v:=Uo
 refine aT (λk=>sw 102 5 (sw 103 10 (sw 104 11 k))) (λ_=>0) o ?_ (he:=by rw[Y];repeat first|exact VQ|refine And.intro rfl ?_);refine eo τok (σ:=Unit) [(0,_),(4,_),(5,_),(10,_)] [(4,_),(5,.st 0 3 [.p (pI v)]),(10,.st 0 3 [.p (pI b.1)])] (λ_=>[]) (λ_=>[]) (λ_=>True) ?_ ?_
 ·refine af (λg=>?_) (λg=>?_)
  ·refine aT (λk=>sw 102 5 (sw 103 11 k)) (λ_=>0) F ?_
   exact aw () trivial
  ·exact aw () trivial
 rintro _ _;have hp:=aZ u;obtain⟨z,V⟩:∃z:Nat,z=b.1.toNat*((row u).length-1):=⟨_,rfl⟩
 have Z:z<=4096*4096:=by
  rw[V];exact Nat.mul_le_mul Uo Uo
 have h:b.1*((((row u).map ndP).length:Int)-1)=z:=by
  rw[R,V,Int.natCast_mul]
  congr 1<;>omega
 have H:gY x u v=decide (4096<(((row x).map ndP).length:Int)+b.1*((((row u).map ndP).length:Int)-1)):=by
  unfold gY pb;rw[r,R,W]
 rw[H];refine aj<|vi ?_;refine vi ?_ (by show _<=b.1*((((row u).map ndP).length:Int)-1);rw[h];omega) (by show b.1*((((row u).map ndP).length:Int)-1)<=_;rw[h];omega);refine vi ?_ (by show _<=(((row x).map ndP).length:Int)+b.1*((((row u).map ndP).length:Int)-1);rw[h];omega) (by show (((row x).map ndP).length:Int)+b.1*((((row u).map ndP).length:Int)-1)<=_;rw[h];omega);refine af (λg=>?_) (λg=>?_)
 ·exact⟨_,_,rfl,rfl,(KX (KU g)).symm⟩
 have I:=zT (λ_:Unit=>[(3,[.p (pI v)]),(29,[.p (ah (row u))])]) 221 ⟨_,_,0,0,0,0,λ_=>pI v,λ_=>ah (row u),λ_=>.unk,λ_=>.unk,.inl rfl⟩ zW (iO (fG u v)) 90000000 6 4096 UO UO (LG C i j O) (λs l n d s' l' e=>y6 UO (λd n y e=>KQ (Kc C i e) j) s l n d s' l' e) false x w Uo () [] (λ_=>rfl) (by simp[zW];omega);rw[Hd' x .tm 0 0 () [] w.1,qn w v]at I;exact aT (λk=>sw 100 5 (sw 101 4 (sw 10 12 k))) (λ_=>0) I<|⟨_,_,rfl,rfl,(KY (by simpa using g)).symm⟩
end Go.Q
namespace Go.Wx
theorem sF{P:Program}{τ:Tau}(d:aS P τ){T e sz bs:Nat}(j:look τ.slcs T=some (e,sz,bs)){x y:Operand}{l:List (List PV)}(q:0<l.length){k:PV ->Prop}(r:k (.bool false)):oQ P .eql T x y (.c (.p (.sl l))) (.c (.p (.raw (.slice none 0 0)))) k:=⟨⟨.bool false,λC ρ va s w h i=>by
 have h:RV C (.sl l) va:=h;have i:RV C (.raw (.slice none 0 0)) s:=i;cases i;obtain⟨v,_⟩:=d.slcs T e sz bs j;cases h with
 |nil a c=>simp at q
 |sl l sz b o c f=>
  refine⟨.bool false,.bool _,?_⟩;rw[eqGuard_at_slice];simp only[Sem.run_bind,Sem.run_pure,Result.andThen_ok];exact Lib.run_eql_slice_nil w T e _ _ c 0 0 v,r⟩⟩
theorem VO.vc{P:Program}{f:FuncId}{ps:List PV}{e sz:Nat}{l:List (List PV)}(h:VO P f ps e sz l):VC P f ps (.sl l):=⟨h.1,λw X C ρ s z D=>(h.2 w X C ρ s z D).mono λe L ⟨v,O,d,E,i⟩=>by
 obtain⟨r,F,k⟩:=i.slot 0 _ rfl (nM rfl);have k:r=d 0:=k;obtain rfl:v=r:=JB F;obtain⟨H,o,_,j⟩:=i.frz [0] λ_ _=>rfl;obtain⟨I,q,K⟩:=Rep.le ⟨H,d,o.reslot (b:=.c (.p (.sl l))) (v:=v) λ_=>k▸j 0 Ud l (.inl ⟨_,_,rfl⟩)⟩ (iu (f:=id) (B:=⟨[(0,.c (.p (.sl l)))],[]⟩) ⟨rfl,VQ⟩ VQ rfl);exact⟨v,I,q,E,K⟩⟩
end Go.Wx
namespace Go.Q
def iP(x:Int):List PV:=[.int .i64 x]
def rP(t:List Nd):List PV:=[ah t]
theorem az{l:List (List Nd)}{i:Int}{k:Nat ->List PV ->Prop}(j:Nat){x:(List Nd)}(b:l[j]?=some x)(d:k j (rP x))(hi:i=(j:Int):=by first|rfl|omega):kB (l.map rP) 1 i k:=vm j b d hi
theorem aI{l:List Nd}{i:Int}{k:Nat ->List PV ->Prop}(j:Nat){x:Nd}(b:l[j]?=some x)(d:k j (ndP x))(hi:i=(j:Int):=by first|rfl|omega):kB (l.map ndP) 3 i k:=vm j b d hi
theorem de{l:List bY}{i:Int}{k:Nat ->List PV ->Prop}(j:Nat){x:bY}(b:l[j]?=some x)(d:k j (cj x))(hi:i=(j:Int):=by first|rfl|omega):kB (l.map cj) 7 i k:=vm j b d hi
theorem gI{l:List gZ}{i:Int}{k:Nat ->List PV ->Prop}(j:Nat){x:gZ}(b:l[j]?=some x)(d:k j (cd x))(hi:i=(j:Int):=by first|rfl|omega):kB (l.map cd) 2 i k:=vm j b d hi
theorem jM(l:List (List Nd)):∀x∈l,(rP x).length=1/\∀q∈rP x,q.one=true:=λx _=>⟨rfl,λq b=>by
 obtain rfl:q=ah x:=by simpa[rP]using b
 rfl⟩
theorem eH{α:Type}{p:α ->List PV}{l:List α}{i:Nat}{k:List PV ->Prop}{x:α}(b:l[i]?=some x)(d:k (p x)):pS (l.map p) i k:=xK (p x) (by rw[JX,b];rfl) d
theorem vp{t a q:List Nd}{y:Tr}(hl:t.length<=1000000000)(e:t=a++(row y++q))(b:Ok .tm y):VC prog 122 [ah t,pI (a.length:Int)] (pI ((a.length+(row y).length:Nat):Int)):=by
 have d:a.length<=t.length:=by rw[e];simp
 have h:=E2 t hl t.length a.length Uo Uo λ_=>Uo
 rwa [sn,e,J4 b a q,<- e]at h
theorem sG{l:List Nd}(b:0<l.length)(hl:l.length<=1000000):VO prog 83 [ah l] 46 3 (l.map ndP):=by
 refine mS 8 [.tmp 2] τok func83 ?_;refine aj<|sF (l:=l.map ndP) τok (by rfl) (by rw[KF];exact b)<|va ?_ (fM l);exact⟨7,rfl,rfl⟩
def pM(r s:Nat)(t:List Nd)(p:Nat)(ys:List (List Nd))(bs:List Int):List (Nat×SE):=[(r,.rw 29 1 (ys.map rP)),(s,.rw 3 1 (bs.map iP)),(1,.st 1 29 [.p (ah t)]),(2,.st 2 3 [.p (pI p)]),(3,.st 3 67 [.row r]),(4,.st 4 136 [.row s])]
theorem zV{t:List Nd}{y:Tr}{d:List Nd}{p:Nat}{ys:List (List Nd)}{bs:List Int}{b:Int}(hl:t.length<=1000000)(e:t.drop p=row y++d)(r:Ok .tm y)(h1:ys.length<=1000000)(h2:bs.length<=1000000):VG prog 144 [.c (.p (pI b)),.c (.ptr 1 0),.c (.ptr 2 0),.c (.ptr 3 0),.c (.ptr 4 0)] (pM 0 5 t p ys bs) (.ok (.c (.p (.tup [])),pM 10 15 t (p+(row y).length) (ys++[row y]) (bs++[b]))):=by
 have v:=aZ y;have i:p<=t.length:=by
  rcases Nat.lt_or_ge t.length p with h|h
  ·have:=KG List.length e
   rw[JY Uo]at this;simp at this;omega
  ·exact h
 have o:=vp (t:=t) (a:=t.take p) (q:=d) (y:=y) Uo (by rw[<- e,List.take_append_drop]) r;rw[VJ,Nat.min_eq_left i]at o;have j:=KG List.length e;rw[VK,JK]at j;have w:=au ndP t;refine cJ 22 [] τok func144 ?_;refine aj<|ae o ?_;refine bH p (p+(row y).length) ?_ (λx s=>by obtain⟨y,_,rfl⟩:=List.mem_map.1 s;rfl) rfl;rw[<- List.map_take,<- List.map_drop,List.drop_take,e,Nat.add_sub_cancel_left,List.take_left];refine bi ?_ (hb:=Uk);refine vk ?_;refine bi ?_ (hb:=Uk);exact .inl ⟨_,_,_,λk=>sw 10 16 (sw 15 20 k),rfl,rfl,rfl,rfl,⟨KG (λl=>some (SE.rw _ _ l)) (by rw[KB];rfl),KG (λl=>some (SE.rw _ _ l)) (by rw[KB];rfl),rfl,rfl,rfl,rfl,trivial⟩,rfl⟩
def bsK:List Tr ->Nd ->Int ->List Int
 |[],_,_=>[]
 |_::r,n,i=>(if n.op=12 then [0,n.b]else [bh n i])++bsK r n (i+1)
def zX(x:Tr):List Int:=bsK (if x.n.op=2 then []else x.ks) x.n 0
def hP(a b c d:Nat):Nat ->Nat
 |0=>a
 |5=>b
 |2=>7
 |3=>5
 |4=>6
 |10=>c
 |15=>d
 |k=>k
theorem LI{x:Tr}(hx:Ok .tm x)(T:(row x).length<=4096):VG prog 82 [.c (.p (ah (row x)))] [] (.ok (.tp [.row 10,.row 15],[(10,.rw 29 1 (((kidsT x).map row).map rP)),(15,.rw 3 1 ((zX x).map iP))])):=by
 obtain⟨n,ks⟩:=x;obtain⟨hp,h3,b2⟩:=hx.tm;obtain⟨hc,C,j⟩:=hx.kids;have V:=dn hp;obtain⟨t,ht⟩:∃t,row (.mk n ks)=t:=⟨_,rfl⟩
 rw[ht]at T ⊢;have W:t=n::rows ks:=by rw[<- ht,row]
 have hn:t[0]?=some n:=by rw[W];rfl
 obtain⟨o,e⟩:∃o,o=(if n.op=2 then []else ks):=⟨_,rfl⟩
 obtain⟨F,hF⟩:∃F:List Tr ->List Tr,F=λl=>if n.op=12 then l.flatMap (·.ks)else l:=⟨_,rfl⟩
 obtain⟨KT,X⟩:∃KT,kidsT (.mk n ks)=KT:=⟨_,rfl⟩
 obtain⟨BT,Y⟩:∃BT,zX (.mk n ks)=BT:=⟨_,rfl⟩
 rw[X,Y];have Z:F o=KT:=by
  rw[<- X,hF,e];simp only[kidsT]
  by_cases D:n.op=2
  ·simp[D]
  ·simp[D]
 have a0:bsK o n 0=BT:=by rw[<- Y,zX,e];rfl
 have a1:∃v,t.drop 1=rows o++v:=by
  rw[W,e];split
  ·exact⟨_,rfl⟩
  ·exact⟨[],Ud⟩
 obtain⟨v,a5⟩:=a1;have w:bv n=(o.length:Int)/\bC cnt nx o n .tm 0/\fc' o=true:=by
  obtain⟨_,_,_,a6⟩:=fq hc;have b3:=nX hp
  by_cases D:n.op=2
  ·rw[KX D]at e
   subst e;exact⟨by simp[bv,D],trivial,rfl⟩
  ·rw[KY D]at e a6
   subst e;exact⟨Uo,C,j⟩
 have b1:=(nX hp).2;have a2:n.op=2 ->o=[]:=λh=>by rw[e,KX h]
 refine cJ 38 [.tmp 2,.tmp 3] τok func82 ?_;refine aD<|aD<|aI 0 hn ?_;refine aD<|aD<|lF 5 0 100 29 1 rfl rfl rfl UO<|lF 6 0 105 3 1 rfl rfl rfl UO<|aj<|ae (zN n ⟨V.1,V.2.1⟩) ?_;rw[w.1];refine aB τok (σ:=Nat×Nat×List Tr×List Int×List Tr) [(4,_),(5,_),(6,_),(7,_),(8,_),(15,_)] [(1,_),(4,_)] (λq=>[(16,vI q.1)]) (λq=>[(7,.st 0 3 [.p (pI q.2.1)]),(100,.rw 29 1 ((q.2.2.1.map row).map rP)),(105,.rw 3 1 (q.2.2.2.1.map iP)),(5,.st 0 67 [.row 100]),(6,.st 0 136 [.row 105])]) (λq=>q.1+q.2.2.2.2.length=o.length/\q.2.2.1++F q.2.2.2.2=KT/\q.2.2.2.1++bsK q.2.2.2.2 n q.1=BT/\t.drop q.2.1=rows q.2.2.2.2++v/\bC cnt nx q.2.2.2.2 n .tm 0/\fc' q.2.2.2.2=true/\q.2.2.1.length<=2*q.1/\q.2.2.2.1.length<=2*q.1) (λq=>o.length-q.1) (0,1,[],[],o) ⟨Ud,Z,a0,a5,w.2.1,w.2.2,KJ _,KJ _⟩ ?_;rintro⟨i,p,ys,bs,E⟩ ⟨O,hy,H,K,C,j,a7,a8⟩;simp only at O hy H K C j a7 a8;refine aj<|af (λg=>?_) (λg=>?_);rotate_left
 ·have g:¬ (i:Int)<o.length:=g
  obtain rfl:E=[]:=List.length_eq_zero_iff.1 Uo;rw[show F []=[] by rw[hF];simp,JD]at hy;rw[bsK,JD]at H;subst hy H;refine vk ?_;exact .inr ⟨_,λk=>sw 10 100 (sw 15 105 k),rfl,rfl,⟨rfl,rfl,trivial⟩,rfl⟩
 have g:(i:Int)<o.length:=g
 match E,O with
 |[],O=>simp at O;omega
 |y::r,O=>
 obtain⟨s,I,z⟩:=kJ C j;simp only[rows,List.append_assoc]at K;simp only[JV]at O;simp only[bsK]at H;refine af (λd=>?_) (λd=>?_)
 ·have d:n.op=12:=d
  have s:Ok .fn y:=by rwa [show nx Md.tm n 0= .fn by simp[nx,d]]at s
  obtain⟨f,L,R,rfl,f13,b4,a9,a'⟩:=s.fn;rw[show row (.mk f [L,R])=f::(row L++row R) by simp[row,rows]]at K;simp only[List.cons_append,List.append_assoc]at K;obtain⟨_,_,a3⟩:=DX K;have a4:t.drop (p+1+(row L).length)=row R++(rows r++v):=by rw[<- List.drop_drop,a3,List.drop_left]
  have b0:t.drop (p+1+(row L).length+(row R).length)=rows r++v:=by rw[<- List.drop_drop,a4,List.drop_left]
  rw[KX d]at H;refine vi ?_;refine aT (hP 100 105 110 115) (λ_=>0) (zV (ys:=ys.map row) (bs:=bs) (b:=0) Uo a3 a9 Uk Uo) ?_;refine aT (hP 110 115 120 125) (λ_=>0) (zV (ys:=ys.map row++[row L]) (bs:=bs++[0]) (b:=n.b) Uo a4 a' Uk Uk) ?_;refine vi ?_;exact aw (i+1,p+1+(row L).length+(row R).length,ys++[L,R],bs++[0,n.b],r) ⟨Us,by simp only;rw[<- hy,hF];simp[d,Tr.ks],by simp only;rw[<- H];simp,b0,I,z,Uk,Uk⟩ (f:=λk=>sw 100 120 (sw 105 125 k)) (y':=⟨rfl,KG (λl=>some (SE.rw _ _ l)) Ud,KG (λl=>some (SE.rw _ _ l)) Ud,rfl,rfl,trivial⟩)
 ·have d:¬ n.op=12:=d
  have D:¬ n.op=2:=λh=>by
   rw[a2 h]at g;simp at g;omega
  have s:Ok .tm y:=by rwa [show nx Md.tm n 0= .tm by simp[nx,D,d]]at s
  rw[KY d]at H;refine ae (EY n i) ?_;refine aT (hP 100 105 110 115) (λ_=>0) (zV (ys:=ys.map row) (bs:=bs) (b:=bh n i) Uo K s Uk Uo) ?_;refine vi ?_;exact aw (i+1,p+(row y).length,ys++[y],bs++[bh n i],r) ⟨Us,by simp only;rw[<- hy,hF];simp[d,Tr.ks],by simp only;rw[<- H];simp,by rw[<- List.drop_drop,K,List.drop_left],I,z,Uk,Uk⟩ (f:=λk=>sw 100 110 (sw 105 115 k)) (y':=⟨rfl,KG (λl=>some (SE.rw _ _ l)) Ud,KG (λl=>some (SE.rw _ _ l)) Ud,rfl,rfl,trivial⟩)
theorem LJ{α:Type}{l:List α}{i:Nat}{x:α}(h:l[i]?=some x):l.set i x=l:=by
 refine List.ext_getElem? λj=>?_;rw[List.getElem?_set]
 by_cases e:i=j
 ·subst e
  rw[KX rfl,KX (aM h),h]
 ·rw[KY e]
theorem E6{x:Tr}(j:Ok .tm x)(b:(row x).length<=4096):VO prog 46 [ah (row x)] 29 1 (((kidsT x).map row).map rP):=by
 have s:=kT (row x) Uo;rw[kN j b]at s;have o:=iy j;obtain⟨L,q⟩:∃L,L=(kidsT x).map row:=⟨_,rfl⟩
 have h:=LI j b;rw[<- q]at h ⊢;have C:=au rP L;have v:L.length<=18:=by rw[q,KF];exact o
 refine mS 29 [.tmp 2] τok func46 ?_;refine aj<|ae s ?_;refine vn ?_ UO;refine aT (λk=>k+100) (λ_=>0) h ?_;refine aB τok (σ:=Nat) [(3,_),(15,_)] [(110,_)] (λi=>[(16,vI i)]) (λ_=>[]) (λi=>i<=L.length) (λi=>L.length-i) 0 (KV _) ?_;intro i D;refine aj<|af (λg=>?_) (λg=>?_);rotate_left
 ·exact⟨110,rfl,rfl⟩
 have g:(i:Int)<((L.map rP).length:Int):=g;obtain⟨y,e,_⟩:=ay (l:=L) (k:=i);refine az i e ?_;refine eH e ?_;have r:0<y.length/\y.length<=4096:=by
  have:=JQ e;rw[q]at this;obtain⟨z,w,rfl⟩:=List.mem_map.1 this;have:=aZ z;have:=ip' x z w;omega
 refine ae (sG r.1 Uo).vc ?_;refine az i e ?_;refine eH e<|vi ?_;exact aw (i+1) (show i+1<=_ by omega) (d:=⟨⟨KG (λl=>some (SE.rw _ _ l)) (LJ (by rw[JX,e];rfl)),rfl,rfl⟩,trivial⟩)
theorem zY{α:Type}{R:Rd α}{f:FuncId}{e n:Nat}(j:dM prog f)(h:∀w,dM prog f/\Calls prog f #[.slice none 0 0,.int .i64 (n:Int)] w (λs w'=>∃v,s= .returned v/\Own R e w.heap.size w' v []/\Kp [] w w')):VO prog f [.raw (.slice none 0 0),pI n] e R.sz []:=.of ⟨j,λw C O q D=>by
 obtain⟨v,z,rfl,E,F⟩:=uZ D;cases E;cases F;refine(h w).2.mono λe w' ⟨v,H,r,k⟩=>?_;obtain⟨d,q1,I⟩:=r.row;refine⟨v,C,d,H,q1,λx l=>(by cases l),by cases d<;>first|rfl|exact I.elim,λi T x _ l=>by simp at l,⟨q.tr k,λ_ _ _ h=>h,λb o v h=>.inl ⟨o,v,h⟩,k⟩,λg K b o u L=>?_⟩;have:=r.block g (by rw[<- mD q1];exact K);have:=(q b o u L).lt;omega⟩
theorem LK(n:Nat)(b:0<n)(d:n<=1000000):VO prog 241 [.raw (.slice none 0 0),pI n] 46 3 []:=zY ⟨_,func241,rfl,UO⟩ (Kf n b d)
theorem pg{α:Type}{L:List (List α)}{k:Nat}{x:List α}(b:L[k]?=some x):((L.take (k+1)).flatten).length=((L.take k).flatten).length+x.length:=by
 rw[QQ,b];simp
theorem jo{α:Type}(L:List (List α))(k:Nat):((L.take k).flatten).length<=L.flatten.length:=by
 have:L.flatten=(L.take k).flatten++(L.drop k).flatten:=by rw[<- List.flatten_append,List.take_append_drop]
 rw[this,JK];omega
theorem E7{L:List (List Nd)}(hl:L.length<=1000000)(e:0<L.flatten.length)(h1:L.flatten.length<=1000000):VO prog 213 [.sl (L.map rP)] 46 3 (L.flatten.map ndP):=by
 have q:=au rP L;refine mS 36 [.tmp 2] τok func213 ?_;refine aj<|aB τok (σ:=Nat) [(0,_),(9,_),(10,_)] [] (λi=>[(11,vI i),(3,vI ((L.take i).flatten.length:Nat))]) (λ_=>[]) (λi=>i<=L.length) (λi=>L.length-i) 0 (KV _) ?_;intro i h;have j:=jo L i;refine aj<|af (λg=>?_) (λg=>?_)
 ·have g:(i:Int)<((L.map rP).length:Int):=g
  obtain⟨x,b,_⟩:=ay (l:=L) (k:=i);have o:=pg b;have d:=jo L (i+1);have r:=au ndP x;refine az i b ?_;refine vi ?_;refine vn ?_;refine vi ?_;exact aw (i+1) (show i+1<=_ by omega) (x:=⟨rfl,KG (λz=>some (vI z)) (by show ((L.take i).flatten.length:Int)+(x.map ndP).length=_;omega),trivial⟩)
 have g:¬ (i:Int)<((L.map rP).length:Int):=g;obtain rfl:i=L.length:=Uo
 rw[List.take_length];refine aT (λ_=>100) (λ_=>0) (LK L.flatten.length e h1) ?_;refine aB τok (σ:=Nat) [(25,_),(26,_)] [] (λi=>[(27,vI i),(6,.c (.row 100))]) (λi=>[(100,.rw 46 3 ((L.take i).flatten.map ndP))]) (λi=>i<=L.length) (λi=>L.length-i) 0 (KV _) ?_;intro i h;have j:=jo L i;refine aj<|af (λg=>?_) (λg=>?_)
 ·have g:(i:Int)<((L.map rP).length:Int):=g
  obtain⟨x,b,_⟩:=ay (l:=L) (k:=i);have o:=pg b;have d:=jo L (i+1);refine az i b ?_;refine va ?_ (fM x) (hb:=by rw[KF];omega);refine vi ?_;exact aw (i+1) (show i+1<=_ by omega) (f:=λk=>sw 100 33 k) (y':=⟨KG (λl=>some (SE.rw _ _ l)) (by show _++_=((L.take (i+1)).flatten).map ndP;rw[QQ,b];simp),trivial⟩)
 have g:¬ (i:Int)<((L.map rP).length:Int):=g;obtain rfl:i=L.length:=Uo
 rw[List.take_length];exact⟨100,rfl,rfl⟩
theorem LL{x:Tr}{ys:List Tr}(w:Ok .tm x)(d:(row x).length<=4096)(o:∀y∈ys,Ok .tm y/\(row y).length<=4096)(I:ys.length<=100000):VC prog 180 [ah (row x),bD (ys.map row)] (if 4096<(row (an' x ys)).length then .tup [.sl [],pI 9]else .tup [ah (row (an' x ys)),pI 0]):=by
 have v:=kT (row x) Uo;rw[kN w d]at v;have K:=au ndP (row x);have O:=au rP (ys.map row);have C:(row (an' x ys)).length=ys.length+((row x).length+(rows ys).length):=by rw[bK'];simp
 have e:∀i,(rows (ys.take i)).length<=(rows ys).length:=λi=>by
  have:rows ys=rows (ys.take i)++rows (ys.drop i):=by rw[<- bF',List.take_append_drop]
  rw[this,JK];omega
 refine vf 57 [.tmp 4,.tmp 5] τok func180 ?_;refine ae v ?_;refine vn ?_ UO;refine aB τok (σ:=Nat) [(0,_),(1,_),(19,_),(20,_)] [] (λi=>[(21,vI i),(7,vI (min (((row x).length+i+(rows (ys.take i)).length:Nat):Int) 4097))]) (λ_=>[]) (λi=>i<=ys.length) (λi=>ys.length-i) 0 (KV _) ?_ (x1:=⟨rfl,KG (λz=>some (vI z)) (by show (((row x).map ndP).length:Int)=_;simp[rows];omega),trivial⟩);intro i D;have R:=e i;refine aj<|af (λg=>?_) (λg=>?_)
 ·have g:(i:Int)<(((ys.map row).map rP).length:Int):=g
  have E:(ys.map row).length=ys.length:=KF _;obtain⟨y,q,_⟩:=ay (l:=ys) (k:=i);obtain⟨r,s⟩:=o y (JQ q);have h:=kT (row y) Uo;rw[kN r s]at h;have T:(rows (ys.take (i+1))).length=(rows (ys.take i)).length+(row y).length:=by rw[QQ,q,bF'];simp[rows]
  have F:=au ndP (row y);refine az i (by rw[JX,q];rfl) ?_;refine ae h ?_;refine vn ?_ UO;refine vi ?_;refine vi ?_;refine vi ?_;exact aw (i+1) (show i+1<=_ by omega) (x:=⟨rfl,KG (λz=>some (vI z)) (by show min (min (((row x).length+i+(rows (ys.take i)).length:Nat):Int) 4097+1+(((row y).map ndP).length:Int)) 4097=min (((row x).length+(i+1)+(rows (ys.take (i+1))).length:Nat):Int) 4097;omega),trivial⟩)
 have g:¬ (i:Int)<(((ys.map row).map rP).length:Int):=g;have E:(ys.map row).length=ys.length:=KF _;obtain rfl:i=ys.length:=Uo
 rw[List.take_length]at *
 refine af (λj=>?_) (λj=>?_)
 ·have j:min (((row x).length+ys.length+(rows ys).length:Nat):Int) 4097>4096:=j
  exact aE (h3:=by rw[KX Uo];rfl)
 have j:¬ min (((row x).length+ys.length+(rows ys).length:Nat):Int) 4097>4096:=j;rw[KY Uo,bK'];obtain⟨N,H⟩:∃N:Nat,min (((row x).length+ys.length+(rows ys).length:Nat):Int) 4097=N:=⟨(row x).length+ys.length+(rows ys).length,Uo⟩
 refine CT 0 N ?_ rfl H;refine aB τok (σ:=Nat) [(0,_),(1,_),(41,_),(42,_)] [] (λi=>[(43,vI i),(11,.c (.row 100))]) (λi=>[(100,.rw 46 3 ((List.replicate i appN).map ndP))]) (λi=>i<=ys.length) (λi=>ys.length-i) 0 (KV _) ?_ (f:=λk=>sw 100 40 k);intro i D;refine aj<|af (λg=>?_) (λg=>?_)
 ·have g:(i:Int)<(((ys.map row).map rP).length:Int):=g
  refine bi ?_ (hb:=Uk);refine vi ?_;exact aw (i+1) (show i+1<=_ by omega) (f:=λk=>sw 100 48 k) (y':=⟨KG (λl=>some (SE.rw _ _ l)) (by rw[List.replicate_succ',KB];rfl),trivial⟩)
 have g:¬ (i:Int)<(((ys.map row).map rP).length:Int):=g;obtain rfl:i=ys.length:=Uo
 have b:(row x::ys.map row).flatten=row x++rows ys:=by rw[List.flatten_cons,fs']
 have V:=aZ x;refine va (p:=rP) ?_ (jM _);refine ae (E7 (L:=row x::ys.map row) Uk (by rw[b,JK];omega) (by rw[b,JK];omega)).vc ?_;rw[b];refine va ?_ (fM _) (hb:=Uk);exact⟨_,_,rfl,rfl,KG (λl=>PV.tup [.sl l,pI 0]) Ud⟩
theorem LM{op:Int}(T:op=4 \/op=5){x:Tr}{ys:List Tr}(V:Ok .tm x)(o:(row x).length<=4096)(v:∀y∈ys,Ok .tm y/\(row y).length<=4096)(Y:ys.length<=100000):VC prog 196 [pI op,bD (ys.map row),ah (row x)] (if 4096<(row (eX op ys x)).length then .tup [.sl [],pI 9]else .tup [ah (row (eX op ys x)),pI 0]):=by
 have I:=kT (row x) Uo;rw[kN V o]at I;have Z:=au ndP (row x);have eY:=au rP (ys.map row);have eM:(ys.map row).length=ys.length:=KF _;rw[uL];obtain⟨R,r⟩:∃R,R=dV op:=⟨_,rfl⟩
 have w:R []=[]:=by rw[r];rfl
 obtain⟨m,K⟩:∃m:Nd,m=⟨op,0,0⟩:=⟨_,rfl⟩
 have z:∀l d,R (l++[d])=R l++(m::row d):=λl d=>by rw[r,K];exact Kh op l d
 have C:∀i,(R (ys.take i)).length<=(R ys).length:=λi=>by rw[r];exact preB_take op ys i
 rw[<- r]
 clear r
 refine cR 68 [.tmp 6,.tmp 7] τok func196 ?_;rcases T with rfl|rfl
 all_goals
  refine aD<|aD ?_
  first
   |refine vn ?_ UO
   |refine vy ?_ UO
    refine vn ?_ UO
  refine aD<|dC 8 100 46 3 rfl rfl<|aD<|VCode.seq<|aD<|VCode.blk<|aB τok (σ:=Nat×Bool×List Nd) [(0,_),(1,_),(2,_),(20,_),(21,_)] [] (λq=>[(22,vI q.1),(9,.c (.p (.bool q.2.1))),(8,.c (.row 100))]) (λq=>[(100,.rw 46 3 (q.2.2.map ndP))]) (λq=>q.1<=ys.length/\q.2.2.length<=4096/\(q.2.1=true ->4096<(R ys).length)/\(q.2.1=false ->q.2.2=R (ys.take q.1))) (λq=>ys.length-q.1) (0,false,[]) ⟨KV _,Ud,(λh=>by cases h),λ_=>w.symm⟩ ?_;rintro⟨i,L,l⟩ ⟨W,D,j,e⟩;simp only at W D j e;have el:=au ndP l;refine aj<|af (λg=>?_) (λg=>?_)
  ·have g:(i:Int)<(((ys.map row).map rP).length:Int):=g
   obtain⟨y,E,_⟩:=ay (l:=ys) (k:=i);obtain⟨F,H⟩:=v y (JQ E);have s:=kT (row y) Uo;rw[kN F H]at s;have ey:=au ndP (row y);refine az i (by rw[JX,E];rfl) ?_;refine ae s ?_;refine vn ?_ UO;cases L with
   |true=>
    refine vi ?_;exact aw (i+1,true,l) ⟨by show i+1<=_;omega,D,j,λh=>by cases h⟩
   |false=>
    obtain rfl:=e rfl;have O:R (ys.take (i+1))=R (ys.take i)++(m::row y):=by rw[QQ,E];exact z _ y
    have X:=C (i+1);rw[O,JK,JV]at X;refine vi ?_;refine vi ?_;refine af (λb=>?_) (λb=>?_)
    ·have b:(((R (ys.take i)).map ndP).length:Int)+1+((row y).map ndP).length>4096:=b
     refine vi ?_;exact aw (i+1,true,R (ys.take i)) ⟨by show i+1<=_;omega,D,λ_=>Uo,λh=>by cases h⟩
    ·have b:¬ (((R (ys.take i)).map ndP).length:Int)+1+((row y).map ndP).length>4096:=b
     refine bi ?_ (hb:=Uk);refine va ?_ (fM _) (hb:=by simp[dN];omega);refine vi ?_;exact aw (i+1,false,R (ys.take i)++(m::row y)) ⟨by show i+1<=_;omega,Uk,λh=>(by cases h),λ_=>O.symm⟩ (f:=λk=>sw 100 49 k) (y':=⟨KG (λl=>some (SE.rw _ _ l)) (by rw[K,KB,List.map_cons,List.append_assoc];rfl),trivial⟩)
  have g:¬ (i:Int)<(((ys.map row).map rP).length:Int):=g;obtain rfl:i=ys.length:=Uo
  rw[List.take_length]at e;refine aj<|ae I ?_;refine vn ?_ UO;cases L with
  |true=>
   exact aE (h3:=by rw[KX (by rw[JK];have:=j rfl;omega)];rfl)
  |false=>
   obtain rfl:=e rfl;refine vi ?_;refine af (λb=>?_) (λb=>?_)
   ·have b:(((R ys).map ndP).length:Int)+((row x).map ndP).length>4096:=b
    exact aE (h3:=by rw[KX (by rw[JK];omega)];rfl)
   ·have b:¬ (((R ys).map ndP).length:Int)+((row x).map ndP).length>4096:=b
    rw[KY (by rw[JK];omega)];refine va ?_ (fM _) (hb:=Uk);exact⟨_,_,rfl,rfl,KG (λl=>PV.tup [.sl l,pI 0]) Ud⟩
theorem LN{α:Type}{os:List α}{i j:Nat}{x y:α}(k:Nat)(e:i<j)(h:j<os.length)(l:os[i]?=some x)(o:os[j]?=some y):((os.set i y).set j x)[k]?=if k=i then some y else if k=j then some x else os[k]?:=by
 by_cases b:k=j
 ·subst b
  rw[List.getElem?_set_self (by simpa using h),KY Uo,KX rfl]
 ·rw[List.getElem?_set_ne Uo]
  by_cases d:k=i
  ·subst d
   rw[List.getElem?_set_self Uo,KX rfl]
  ·rw[List.getElem?_set_ne Uo,KY d,KY b]
abbrev Sl3:=Option Addr×Nat×Nat
def gJ(q:Sl3):List PV:=[.raw (sV q)]
theorem revP:uu prog 123 29:=by
 refine Jx 28 τok func123 λu b R=>?_;have T:=au gJ b;refine aj<|vi (r:=(b.map gJ).length-1) ?_;refine aB τok (σ:=Nat×List Sl3) [(0,.c (.rv u 0))] [] (λq=>[(2,vI q.1),(3,vI ((b.length:Int)-1-q.1))]) (λq=>[(0,.rw 29 1 (q.2.map gJ))]) (λq=>q.1<=b.length/\q.2.length=b.length/\∀k,k<b.length ->q.2[k]?=if k<q.1 \/b.length<=k+q.1 then b[b.length-1-k]? else b[k]?) (λq=>b.length-q.1) (0,b) ⟨KV _,rfl,λk C=>by rw[KY Us]⟩ ?_ (x1:=⟨rfl,KG (λz=>some (vI z)) (by show ((b.map gJ).length:Int)-1=(b.length:Int)-1-(0:Nat);omega),trivial⟩);rintro⟨i,d⟩ ⟨K,s,h⟩;simp only at K s h;refine aj<|af (λg=>?_) (λg=>?_)
 ·have g:(i:Int)<(b.length:Int)-1-i:=g
  obtain⟨j,L⟩:∃j:Nat,(b.length:Int)-1-i=j:=⟨((b.length:Int)-1-i).toNat,Uo⟩
  obtain⟨x,o,_⟩:=ay (l:=d) (k:=i);obtain⟨y,v,_⟩:=ay (l:=d) (k:=j);refine vm (p:=gJ) j v ?_;refine eH v<|vm (p:=gJ) i o ?_;refine eH o<|vm (p:=gJ) i o ?_;refine eH o ?_;have O:(d.map gJ).set i (gJ y)=(d.set i y).map gJ:=by rw[List.map_set]
  have w:((d.map gJ).set i (gJ y))[j]?=some (gJ y):=by rw[List.getElem?_set_ne Uo,JX,v];rfl
  refine oR j (gJ y) L w rfl<|xK (gJ y) w<|vk ?_;refine vi ?_;refine vi ?_;refine aw (i+1,(d.set i y).set j x) ⟨by show i+1<=_;omega,by simp[s],λk C=>?_⟩ (x:=⟨rfl,KG (λz=>some (vI z)) (by show (b.length:Int)-1-i-1=(b.length:Int)-1-((i+1:Nat):Int);omega),trivial⟩) (y':=⟨KG (λl=>some (SE.rw _ _ l)) (by show ((d.map gJ).set i (gJ y)).set j (gJ x)=_;rw[O];exact(List.map_set ..).symm),trivial⟩);show ((d.set i y).set j x)[k]?=if k<i+1 \/b.length<=k+(i+1)then b[b.length-1-k]? else b[k]?
  rw[LN k Uo Uo o v];have D:=h i Uo;have E:=h j Uo;rw[KY Uo,o]at D;rw[KY Uo,v]at E
  by_cases F:k=i
  ·subst F
   rw[KX rfl,KX Uo,show b.length-1-k=j by omega];exact E
  ·rw[KY F]
   by_cases H:k=j
   ·subst H
    rw[KX rfl,KX Uo,show b.length-1-k=i by omega];exact D
   ·rw[KY H,h k C]
    by_cases I:k<i \/b.length<=k+i
    ·rw[KX I,KX Uo]
    ·rw[KY I,KY Uo]
 ·have g:¬ (i:Int)<(b.length:Int)-1-i:=g
  have e:d=b.reverse:=by
   refine List.ext_getElem? λk=>?_
   by_cases C:k<b.length
   ·rw[h k C,List.getElem?_reverse Uo]
    split
    ·rfl
    ·rw[show b.length-1-k=k by omega]
   ·rw[QF Uo,QF Uk]
  subst e;exact⟨rfl,rfl,rfl⟩
theorem sH{t a q:List Nd}{y:Tr}(e:t=a++(row y++q)){p n:Nat}(b:p=a.length)(d:n=a.length+(row y).length):PV.sl (((t.map ndP).take n).drop p)=ah (row y):=by
 subst b d;rw[e,<- List.map_take,<- List.map_drop,<- List.append_assoc,<- JK,List.take_left' rfl,List.drop_left' rfl]
 rfl
theorem df(l:List Nd):∀z∈l.map ndP,z.length=3:=λz b=>by
 obtain⟨y,_,rfl⟩:=List.mem_map.1 b
 rfl
theorem LO(l:List (List Nd)):∀x∈l.map rP,∃t,x=[.sl t]:=λx b=>by
 obtain⟨y,_,rfl⟩:=List.mem_map.1 b;exact⟨_,rfl⟩
theorem LP{x:Tr}{ys:List Tr}(h:[]++ys.reverse=argsT x):((ys.map row).map rP).reverse=((argsT x).map row).map rP:=by
 rw[<- h,List.nil_append,<- List.map_reverse,<- List.map_reverse]
theorem LQ{n:Nd}{f u:Tr}(b:Ok .tm (.mk n [f,u])):row (.mk n [f,u])=[n]++(row f++row u)/\row (.mk n [f,u])=(n::row f)++(row u++[]):=⟨by simp[row,rows],by simp[row,rows]⟩
theorem sI{x:Tr}(r:Ok .tm x)(o:(row x).length<=4096):VC prog 66 [ah (row x)] (.tup [ah (row (headT x)),bD ((argsT x).map row)])/\VC prog 255 [ah (row x)] (.tup [ah (row (headT x)),bD ((argsT x).map row)]):=by
 have C:=kT (row x) Uo;rw[kN r o]at C;obtain⟨I,K,_,_⟩:=nz' (row x).length x (KJ _) r;have L:=aZ x;refine⟨?s,?h⟩
 case' s=>
  let z:Nat:=22
  refine cR 31 [.tmp 2,.tmp 3] τok func66 ?_;refine aD<|aD<|ae C ?_;refine vn ?_ UO;refine aD ?_
 case' h=>
  let z:Nat:=18
  refine cR 26 [.tmp 2,.tmp 3] τok func255 ?_;refine aD<|aD ?_
 all_goals
  refine dC 4 1000 29 1 rfl rfl<|aD<|aB τok (σ:=Tr×List Tr) [] [] (λq=>[(0,.c (.p (ah (row q.1)))),(4,.c (.row 1000))]) (λq=>[(1000,.rw 29 1 ((q.2.map row).map rP))]) (λq=>Ok .tm q.1/\(row q.1).length<=(row x).length/\headT q.1=headT x/\argsT q.1++q.2.reverse=argsT x) (λq=>(row q.1).length) (x,[]) ⟨r,KJ _,rfl,Ud⟩ ?_;rintro⟨⟨n,ks⟩,i⟩ ⟨e,v,d,b⟩;simp only at e v d b;have E:i.length<=4096:=by
   have:=KG List.length b;rw[JK,List.length_reverse]at this;omega
  have O:=au rP (i.map row);have R:(i.map row).length=i.length:=KF _;refine aj<|aI 0 (x:=n) (by simp[row]) ?_;refine af (λg=>?_) (λg=>?_)
  ·have g:n.op=6:=g
   obtain⟨f,u,rfl,D,T⟩:=pc e g;obtain⟨r1,r2⟩:=LQ e;rw[mV g]at d;rw[mW g]at b;have F:=aZ f;have w:=aZ u;have H:=KG List.length r1;simp only[JK,List.length_singleton]at H;have V:=au ndP (row (.mk n [f,u]));refine ae (vp (t:=row (.mk n [f,u])) (a:=[n]) (q:=row u) (y:=f) Uo r1 D) ?_;refine bH (1+(row f).length) (row (.mk n [f,u])).length ?_ (df _) (h1:=rfl) (h2:=by rw[KF]) (h3:=Uo) (h4:=by rw[KF];show _<=(row (Tr.mk n [f,u])).length;omega);rw[sH (a:=n::row f) (y:=u) (q:=[]) r2 (by rw[JV];omega) (by rw[JV];omega)]
   try refine ae (sG w Uo).vc ?_
   refine bi ?_ (hb:=Uk);refine bH 1 (1+(row f).length) ?_ (df _) (h1:=rfl) (h3:=Uo) (h4:=by rw[KF];show _<=(row (Tr.mk n [f,u])).length;omega);rw[sH (a:=[n]) (y:=f) (q:=row u) (p:=1) (n:=1+(row f).length) r1 rfl rfl];exact aw (f,i++[u]) ⟨D,Us,d,by simp only[List.reverse_append,List.reverse_cons,List.reverse_nil,List.nil_append];rw[<- b];simp⟩ (f:=λk=>sw 1000 z k) (hm:=by show (row f).length<(row (Tr.mk n [f,u])).length;omega) (y':=⟨KG (λl=>some (SE.rw _ _ l)) (by simp only[KB];rfl),trivial⟩)
  ·have g:¬ n.op=6:=g
   rw[n9 g]at d;rw[pd g]at b;refine aj<|yu (j:=1000) (l:=(i.map row).map rP) revP ?_ ⟨Uo,LO _⟩
   try refine ae (sG (l:=row (.mk n ks)) (aZ _) Uo).vc ?_
   rw[LP b,<- d];exact aE
theorem LR{x:Tr}(d:Ok .tm x)(b:(row x).length<=4096):VC prog 66 [ah (row x)] (.tup [ah (row (headT x)),bD ((argsT x).map row)]):=(sI d b).1
theorem LS{x:Tr}(d:Ok .tm x)(b:(row x).length<=4096):VC prog 255 [ah (row x)] (.tup [ah (row (headT x)),bD ((argsT x).map row)]):=(sI d b).2
def atP(x:Atom):List PV:=[pI x.var,pI x.add]
def cF(l:List Atom):PV:=.sl (l.map atP)
def dg(r:Except Int Tr):PV:=match r with
 | .error e=>.tup [.sl [],pI e]
 | .ok y=>.tup [ah (row y),pI 0]
theorem cq{x:Tr}(b:Wf x){k:Nat}(d:k<(kidsT x).length:=by omega):(kidsT x)[k]?=some (kidD x k)/\Wf (kidD x k)/\(row (kidD x k)).length<(row x).length:=by
 have h:(kidsT x)[k]?=some (kidD x k):=by
  unfold kidD;rw[QK,List.getElem?_eq_getElem d]
  rfl
 exact⟨h,b.kid h,fN b.ok h⟩
theorem vq{x:Tr}(b:Wf x):∀y∈kidsT x,Wf y/\(row y).length<(row x).length:=λy e=>by
 obtain⟨k,d⟩:=JH e;exact⟨b.kid d,fN b.ok d⟩
theorem aC{Q:Nd ->Prop}{N:Int}{x:Tr}(h:Ft Q N x):Wf x:=⟨h.ok,h.len⟩
theorem aL{x:Tr}(b:Wf x):(row x)[0]?=some x.n:=by rw[jL b.ok];rfl
theorem aF{x:Tr}(b:Wf x){k:Nat}(d:k<(kidsT x).length:=by omega):((kidsT x).map row)[k]?=some (row (kidD x k)):=by
 rw[JX,(cq b d).1]
 rfl
theorem oj{x:Tr}(i:Ok .tm x)(h:x.n.op=4 \/x.n.op=5):row x=[x.n]++(row (kidD x 0)++row (kidD x 1))/\row x=(x.n::row (kidD x 0))++row (kidD x 1)/\kidsT x=[kidD x 0,kidD x 1]/\Ok .tm (kidD x 0):=by
 obtain⟨o,q⟩:=m8 i Uo Uo;have r:bv x.n=2:=by rcases h with h|h<;>simp[bv,h]
 obtain⟨a,b,d⟩:=uX (l:=x.ks) Uo;have e:=o;rw[d]at e;have s:kidD x 0=a:=by simp[kidD,e]
 have v:kidD x 1=b:=by simp[kidD,e]
 have w:Ok .tm a:=by
  obtain⟨n,ks⟩:=x;simp only[Tr.ks]at d;subst d;have j:=i.kids;have k:=kJ j.2.1 j.2.2;have:nx Md.tm n 0= .tm:=by rcases h with h|h<;>simp only[Tr.n]at h<;>simp[nx,h]
  rw[this]at k;exact k.1
 rw[s,v];refine⟨?_,?_,e,w⟩
 ·obtain⟨n,ks⟩:=x
  simp only[Tr.ks]at d;subst d;simp[row,rows,Tr.n]
 ·obtain⟨n,ks⟩:=x
  simp only[Tr.ks]at d;subst d;simp[row,rows,Tr.n]
theorem qx{x:Tr}(j:Ok .tm x)(h:x.n.op=7):kidsT x=[kidD x 0,kidD x 1,kidD x 2]/\Ok .tm (kidD x 0)/\Ok .tm (kidD x 1)/\row x=[x.n]++(row (kidD x 0)++(row (kidD x 1)++row (kidD x 2)))/\row x=(x.n::row (kidD x 0))++(row (kidD x 1)++row (kidD x 2))/\row x=(x.n::(row (kidD x 0)++row (kidD x 1)))++row (kidD x 2):=by
 obtain⟨q,r⟩:=m8 j Uo Uo;have s:bv x.n=3:=by simp[bv,h]
 obtain⟨a,b,c,e⟩:=EM (l:=x.ks) Uo;have d:=q;rw[e]at d;have v:kidD x 0=a:=by simp[kidD,d]
 have w:kidD x 1=b:=by simp[kidD,d]
 have z:kidD x 2=c:=by simp[kidD,d]
 rw[v,w,z];obtain⟨n,ks⟩:=x;simp only[Tr.ks]at e;subst e;have C:n.op=7:=h;have k:=j.kids;have i:=kJ k.2.1 k.2.2;have o:=kJ i.2.1 i.2.2;have:nx Md.tm n 0= .tm:=by simp[nx,C]
 rw[this]at i o;exact⟨d,i.1,o.1,by simp[row,rows,Tr.n],by simp[row,rows,Tr.n],by simp[row,rows,Tr.n]⟩
theorem dq{Q:Nd ->Prop}{N:Int}{x:Tr}(h:Ft Q N x)(h4:x.n.op=4 \/x.n.op=5):(kidsT x).length=2/\Ft Q N (kidD x 0)/\Ft Q (N+1) (kidD x 1):=by
 obtain⟨d,e⟩:=m8 h.ok Uo Uo;have i:bv x.n=2:=by rcases h4 with h4|h4<;>simp[bv,h4]
 have f1:=h.kidN 0 (by rw[d];omega) (b:=0) (by rcases h4 with h4|h4<;>simp[kb,bh,h4]);have f2:=h.kidN 1 (by rw[d];omega) (b:=1) (by rcases h4 with h4|h4<;>simp[kb,bh,h4]);rw[Int.add_zero]at f1;exact⟨by rw[d];omega,f1,f2⟩
theorem nc{Q:Nd ->Prop}{N:Int}{x:Tr}(h:Ft Q N x)(e:x.n.op=6):(kidsT x).length=2/\Ft Q N (kidD x 0)/\Ft Q N (kidD x 1):=by
 obtain⟨d,i⟩:=m8 h.ok Uo Uo;have j:bv x.n=2:=by simp[bv,e]
 have f1:=h.kidN 0 (by rw[d];omega) (b:=0) (by simp[kb,bh,e]);have f2:=h.kidN 1 (by rw[d];omega) (b:=0) (by simp[kb,bh,e]);rw[Int.add_zero]at f1 f2;exact⟨by rw[d];omega,f1,f2⟩
theorem kU{Q:Nd ->Prop}{N:Int}{x:Tr}(h:Ft Q N x)(e:x.n.op=7):(kidsT x).length=3/\Ft Q N (kidD x 0)/\Ft Q N (kidD x 1)/\Ft Q (N+1) (kidD x 2):=by
 obtain⟨d,i⟩:=m8 h.ok Uo Uo;have j:bv x.n=3:=by simp[bv,e]
 have f1:=h.kidN 0 (by rw[d];omega) (b:=0) (by simp[kb,bh,e]);have f2:=h.kidN 1 (by rw[d];omega) (b:=0) (by simp[kb,bh,e]);have f3:=h.kidN 2 (by rw[d];omega) (b:=1) (by simp[kb,bh,e]);rw[Int.add_zero]at f1 f2;exact⟨by rw[d];omega,f1,f2,f3⟩
theorem iX{x:Tr}{ys:List Tr}{e:Int}(h:aO x ys= .error e):e=9:=by
 unfold aO at h;split at h
 ·injection h with h;exact h.symm
 ·cases h
theorem jp{b u:Tr}{v:Int}{e:Int}(h:bq b u v= .error e):e=9:=by
 unfold bq at h;split at h
 ·injection h with h;exact h.symm
 ·cases h
theorem E8{D:Mem}:∀{css:List (List Value)} {vs:List Value},All2 (rVal.den D) css vs ->css=vs.map λv=>[v]
 |[],[],_=>rfl
 |a::r,v::s,h=>by
  obtain⟨⟨e,_⟩,h⟩:=h;rw[List.map_cons,<- e,E8 h]
theorem LU{f:FuncId}{ps:List PV}{ys:List Tr}(z:dM prog f)(h:∀(w:World) (C:Mem) (vs:List Value),Sub C w ->(∀b o v,C b o v ->b<w.heap.size) ->cZ C ps vs ->Calls prog f vs.toArray w λe w'=>∃v os D,e= .returned v/\Own rVal 29 w.heap.size w' v os/\uJ D os ys/\rB C w D w'/\∀g,blk v=some g ->∀b o u,D b o u ->b≠g):VO prog f ps 29 1 ((ys.map row).map rP):=.of ⟨z,λw C vs K O=>by
 refine(h w C vs K (λb o v h=>(K b o v h).lt) O).mono λe w' ⟨u,os,D,R,T,L,V,E⟩=>?_;have l:=L.1;obtain⟨W,q1,X⟩:=T.row;obtain rfl:=E8 X;refine⟨u,D,os.map λv=>[v],R,by have h:=q1;rw[l]at h;rw[KF,KF];exact h,λx d=>by obtain⟨_,_,rfl⟩:=List.mem_map.1 d;rfl,by simp[l],λi Z x r d=>?_,V,E⟩;rw[JX]at r d;rw[JX]at d;cases F:os[i]? with
 |none=>rw[F]at r;cases r
 |some v=>
  cases k:ys[i]? with
  |none=>rw[k]at d;cases d
  |some y=>
   rw[F]at r;rw[k]at d;obtain rfl:=JB r;obtain rfl:=JB d;obtain⟨a,c,rfl,s,Y⟩:=L.2 i v y F k;have s:TmV D y (.slice a (row y).length c):=⟨a,c,rfl,s,Y⟩
   refine⟨rfl,λj p q H I=>?_⟩
   match j,H,I with
   |0,H,I=>
    obtain rfl:=JB H;obtain rfl:=JB I;exact⟨(TmV.sv.1 s).one,(TmV.sv.1 s).rv ft'⟩⟩
theorem E9{ys:List Tr}(D:∀y∈ys,Ok .tm y/\(row y).length<=4096)(hl:ys.length<=100000):VO prog 214 [bD (ys.map row)] 29 1 ((ys.map row).map rP):=LU ⟨_,func214,rfl,UO⟩ λw C i r d E=>by
 obtain⟨v,rfl,F⟩:=EO E;obtain⟨a,c,i,rfl,O,j,s⟩:=(K5 D Uo F).vals;have l:=s.1;rw[<- l];refine(K0 r i a c j Uo).2.mono λe R ⟨⟨u,H,q⟩,k⟩=>⟨u,i,C,H,q,s,⟨r.tr k,λ_ _ _ h=>h,λb o v h=>.inl ⟨o,v,h⟩,k⟩,λg I b o z K=>?_⟩
 obtain⟨L,q1,_⟩:=q.row;have:=q.block g (by rw[<- mD q1];exact I);have:=d b o z K;omega
section
variable{Q:Nd ->Prop}{N:Int}{x y:Tr}
theorem iY(b:Ft Q N x):VC prog 46 [ah (row x)] (bD ((kidsT x).map row)):=(E6 b.ok b.len).vc
theorem lQ(d:Ft Q N x)(e:N<=100000){b:Int}(hb:0<=b/\b<=500000):VC prog 85 [ah (row x),pI b,pI 0] (.tup [ah (row (aK x b 0)),pI 0]):=E4 d.ok (d.small e) d.len hb ⟨UO,UO⟩
theorem qy(b:Ft Q N x):VC prog 66 [ah (row x)] (.tup [ah (row (headT x)),bD ((argsT x).map row)]):=LR b.ok b.len
theorem ph{u:Tr}{v:Int}(d:Ft Q (N+1+v) x)(b:Ft Q N u)(e:N<=100000)(h:0<=v/\v<=300000):VC prog 181 [ah (row x),ah (row u),pI v] (dg (bq x u v)):=by
 rw[show dg (bq x u v)=_ by unfold bq;rw[apply_ite dg]];exact LH d.ok b.ok (b.small e) d.len b.len h
theorem zZ{ys:List Tr}(b:Ft Q N x)(d:∀y∈ys,Ft Q N y)(e:ys.length<=100000):VC prog 180 [ah (row x),bD (ys.map row)] (dg (aO x ys)):=by
 rw[show dg (aO x ys)=_ by unfold aO;rw[apply_ite dg]];exact LL b.ok b.len (λy h=>⟨(d y h).ok,(d y h).len⟩) e
theorem fO(l:List (List PV)):VC prog 179 [.sl l,pI 0] (.sl l):=by
 refine vf 11 [.tmp 4] τok func179 ?_;refine vn ?_ UO;exact aE
theorem jN(l:List (List PV)){e:Int}(he:e≠0):VE prog 179 [.sl l,pI e] (fI e):=by
 refine nU (r:=.error (fI e)) 11 [.tmp 4] τok func179 ?_;refine aj<|vy ?_ he;exact qe (λw=>by simp[Instr.makeInterface,underlying242,go_sem])<|rfl
theorem LV(b:Ft Q N x):VO prog 46 [ah (row x)] 29 1 (((kidsT x).map row).map rP):=E6 b.ok b.len
end
def gv(x:Tr):PV:=.agg [ah (row (headT x)),bD ((argsT x).map row)]
section
variable{Q:Nd ->Prop}{N:Int}{x y p:Tr}
theorem endP{a q:List Nd}(b:Ft Q N x)(e:row x=a++(row y++q))(d:Ok .tm y){i:Int}(hi:i=(a.length:Int)):VC prog 122 [ah (row x),pI i] (pI ((a.length+(row y).length:Nat):Int)):=by
 subst hi;exact vp (by have:=b.len;omega) e d
theorem z3(d:Ft Q N x)(b:x.n.op=12):VC prog 212 [ah (row x)] (pI (bW x)):=by
 have X:=dp d.ok b;have D:=d.len;obtain⟨f,E,o,H,I⟩:=og d.ok b;obtain⟨k,K⟩:∃k:Nat,x.n.a=(k:Int):=⟨x.n.a.toNat,Uo⟩
 rw[K,Int.toNat_natCast]at E;have j:∀i,i<=k ->(rows (x.ks.take i)).length<(row x).length:=λi L=>by
  obtain⟨g,O,_⟩:=ay (l:=x.ks) (k:=i);obtain⟨q,r,_,_,_,_,_,_,e,_⟩:=lM d.ok b O;have:=aM e;omega
 refine vf 22 [.tmp 2] τok func212 ?_;refine aI 0 (aL (aC d)) ?_;refine aB τok (σ:=Nat) [(0,_),(7,_)] [] (λi=>[(8,vI i),(3,vI ((1+(rows (x.ks.take i)).length:Nat):Int))]) (λ_=>[]) (λi=>i<=k) (λi=>k-i) 0 (KV _) ?_;intro i L;refine aj<|af (λg=>?_) (λg=>?_)
 ·have g:(i:Int)<x.n.a:=g
  obtain⟨h,F,_⟩:=ay (l:=x.ks) (k:=i);obtain⟨q,r,s,v,_,w,C,_,_,R,T⟩:=lM d.ok b F;have V:=j (i+1) Uo;have W:(rows (x.ks.take (i+1))).length=(rows (x.ks.take i)).length+(1+((row q).length+(row r).length)):=by
   rw[dB F,bF',JK,s];simp[rows,row];omega
  refine vi ?_;refine ae (endP d (i:=((1+(rows (x.ks.take i)).length:Nat):Int)+1) R w Uk) ?_;refine ae (endP d T C Uk) ?_;refine vi ?_;exact aw (i+1) (show i+1<=k by omega) (x:=⟨rfl,KG (λz=>some (vI z)) (by rw[W];simp;omega),trivial⟩)
 have g:¬ (i:Int)<x.n.a:=g;obtain rfl:i=k:=Uo
 obtain⟨q,r,_,v,_,_,_,_,e,_⟩:=lM d.ok b E;exact aI (1+(rows (x.ks.take i)).length) e<|⟨_,_,rfl,rfl,KG (PV.int .i64) o.symm⟩
theorem qz(b:Ft Q N x):VC prog 130 [ah (row x)] (gv x):=by
 refine vf 13 [.cell 2 191] τok func130 ?_;refine ae (qy b) ?_;exact aE
theorem Fa(b:Ft Q N x):VC prog 131 [gv x] (ah (row x)):=by
 have h:=b.nargs;have i:=b.len;have d:=zZ b.head b.args Uo;have e:aO (headT x) (argsT x)= .ok x:=by
  unfold aO;rw[b.spine,KY Uo]
 rw[e]at d;refine vf 11 [.tmp 2] τok func131 ?_;refine ae d ?_;refine ae (fO _) ?_;exact aE
theorem qA{ys:List Tr}(j:Qk Q)(d:Ft Q N x)(i:∀y∈ys,Ft Q N y)(k:ys.length<=100000):VX prog 216 [ah (row x),bD (ys.map row)] (match aO x ys with
  | .ok z=>.ok (gv z)
  | .error e=>.error (fI e)):=by
 have b:=zZ d i k;refine nU 12 [.cell 4 191] τok func216 ?_;refine aj ?_;cases h:aO x ys with
 |error e=>
  rw[h]at b;have l:e≠0:=by
   unfold aO at h;split at h
   ·injection h with h
    omega
   ·cases h
  refine ae b ?_;refine bK (jN _ l) ?_;exact rfl
 |ok z=>
  rw[h]at b;refine ae b ?_;refine ae (fO _) ?_;refine ae (qz (gG j d i h)) ?_;exact aE
theorem Fb(b:Ft Q N x):VC prog 175 [gv x] (pI (len x)):=by
 have j:=b.nargs;have o:=b.len;have q:=au ndP (row (headT x));have r:=au (λt=>[ah t]) ((argsT x).map row);have s:=au row (argsT x);have d:∀i,i<=(argsT x).length ->(rows ((argsT x).take i)).length<=(rows (argsT x)).length:=λi e=>by
  have:=KG (λl=>(rows l).length) (List.take_append_drop i (argsT x));simp only[bF',JK]at this;omega
 refine cR 23 [.tmp 2] τok func175 ?_;refine aj ?_;refine vl τok (σ:=Nat) [(10,_),(11,_)] (λi=>[(3,vI (((row (headT x)).length+i+(rows ((argsT x).take i)).length:Nat):Int)),(12,vI i)]) (λi=>i<=(argsT x).length) (λi=>(argsT x).length-i) 0 (KV _) ?_ (x1:=⟨KG (λn:Int=>some (vI n)) (by simp[rows]),rfl,trivial⟩);intro i e;have v:=d i e;refine af (λg=>?_) (λg=>?_)
 ·have g:(i:Int)<((((argsT x).map row).map λt=>[ah t]).length:Int):=g
  obtain⟨a,h,_⟩:=ay (l:=argsT x) (k:=i);have w:=d (i+1) Uo;have z:=au ndP (row a);have C:(rows ((argsT x).take (i+1))).length=(rows ((argsT x).take i)).length+(row a).length:=by
   rw[dB h,bF',JK];simp[rows]
  refine az i (x:=row a) (by rw[JX,h];rfl) ?_;refine vi ?_;refine vi ?_;refine vi ?_;exact aw (i+1) (by show i+1<=_;omega) (x:=⟨KG (λn:Int=>some (vI n)) Uo,rfl,trivial⟩)
 ·have g:¬ (i:Int)<((((argsT x).map row).map λt=>[ah t]).length:Int):=g
  refine⟨_,_,rfl,rfl,?_⟩;rw[JG Uo];show pI _=pI _;unfold len
  congr 1
  omega
theorem LW(b:Ft Q N x)(room:Int):VX prog 178 [gv x,pI room] (if room<len x then .error (fI 9)else .ok (gv x)):=by
 refine nU 12 [.cell 4 191] τok func178 ?_;refine aj<|ae (Fb b) ?_;refine af (λg=>?_) (λg=>?_)
 ·rw[KX g]
  exact qe (EF _)<|rfl
 ·rw[KY g]
  exact aE
end
section
variable{Q:Nd ->Prop}{N:Int}{x y p:Tr}
theorem LX(o:Ft Q N x):VC prog 173 [gv x] (match cE x with
  |some p=>.tup [ah (row p),.bool true]
  |none=>.tup [.sl [],.bool false]):=by
 have d:=o.head;have i:=aC d;have C:=au (λt=>[ah t]) ((argsT x).map row);have D:=au row (argsT x);unfold cE;refine vf 32 [.tmp 2,.tmp 3] τok func173 ?_;refine aI 0 (aL i) ?_;refine af (λg=>?_) (λg=>?_)
 ·have g:(headT x).n.op=11:=g
  obtain⟨q,r,_,_⟩:=hH d.ok g;rw[KX g];refine ae (iY d) ?_;refine az 1 (aF i (by rw[q];omega)) ?_;exact aE
 have g:¬ (headT x).n.op=11:=g;rw[KY g];refine af (λb=>?_) (λb=>?_)
 ·have b:(headT x).n.op=12:=b
  rw[KX b];obtain⟨f,E,s,v,w⟩:=og d.ok b;refine ae (z3 d b) ?_;refine af (λh=>?_) (λh=>?_)
  ·have h:bW (headT x)<((((argsT x).map row).map λt=>[ah t]).length:Int):=h
   rw[KX Uo];obtain⟨z,j,_⟩:=ay (l:=argsT x) (k:=(bW (headT x)).toNat);have e:fK x (bW (headT x))=z:=by simp[fK,j]
   rw[e];refine az (bW (headT x)).toNat (x:=row z) (by rw[JX,j];rfl) ?_;exact aE
  ·have h:¬ bW (headT x)<((((argsT x).map row).map λt=>[ah t]).length:Int):=h
   rw[KY Uo];exact aE
 ·have b:¬ (headT x).n.op=12:=b
  rw[KY b];exact aE
theorem LY{ys:List Tr}{L:List (List PV)}(b:L=(ys.map row).map rP)(e:∀y∈ys,Ok .tm y/\(row y).length<=4096)(hl:ys.length<=100000)(d:0<(rows ys).length)(h1:(rows ys).length<=100000):VC prog 213 [.sl L] (.sl ((rows ys).map ndP)):=by
 subst b;have h:=(E7 (L:=ys.map row) (by rw[KF];omega) (by rw[fs'];exact d) (by rw[fs'];omega)).vc
 rwa [fs']at h
theorem LZ(F:Qk Q)(e:Ft Q N x)(D:Ft Q N p)(b:cE x=some y)(hl:(row (bN x p)).length<=4096):VC prog 174 [gv x,ah (row p)] (gv (bN x p)):=by
 obtain⟨H,I,K⟩:=zC F e D b hl;have j:=e.head;have v:=aC j;have hn:=e.nargs;have O:=e.len;have o:=iy j.ok;have d:=H.head;have e2:=au row (argsT x);unfold gv;rw[K];rw[I]at d ⊢;refine vf 43 [.cell 4 191] τok func174 ?_;refine aI 0 (aL v) ?_;refine af (λg=>?_) (λg=>?_)
 ·have g:(headT x).n.op=11:=g
  rw[KX g]at d;rw[KX g,KX g];obtain⟨w,R,_,_⟩:=hH j.ok g;obtain⟨T,C⟩:∃k,(headT x).ks[1]?=some k:=⟨_,gE⟩
  rw[w]at o;have q:((headT x).ks.map row)[1]?=some (row T):=by rw[JX,C];rfl
  have V:(row (.mk (headT x).n ((headT x).ks.set 1 p))).length=1+(rows ((headT x).ks.set 1 p)).length:=by
   simp[row];omega
  have W:=d.len;have r:∀{l:List Tr} {z:Tr},z∈l ->(row z).length<=(rows l).length:=λh=>eO' h;have X:=aZ p;have Y:=r (l:=(headT x).ks.set 1 p) (z:=p) (JQ (i:=1) (by rw[List.getElem?_set_self Uo]));refine gm (LV j) ?_;rw[w];refine az 1 q ?_;refine eH q<|aI 0 (aL v) ?_;have Z:=LY (ys:=(headT x).ks.set 1 p) (L:=(((headT x).ks.map row).map rP).set 1 [ah (row p)]) (by rw[List.map_set,List.map_set];rfl) (λz s=>⟨?_,?_⟩) Uk Uo Uo
  ·refine ae Z ?_
   refine va (p:=ndP) ?_ (fM _);refine vk<|⟨_,_,rfl,rfl,?_⟩
   generalize headT x=h
   rfl
  ·rcases List.mem_or_eq_of_mem_set s with h|rfl
   ·rw[<- w]at h
    exact(vq v z h).1.ok
   ·exact D.ok
  ·have:=r s
   omega
 ·have g:¬ (headT x).n.op=11:=g
  rw[KY g,KY g];unfold cE at b;rw[KY g]at b;split at b
  ·rename_i E
   split at b
   ·rename_i g3
    obtain⟨f,hf,a0,a1,a2⟩:=og j.ok E;obtain⟨z,s,_⟩:=ay (l:=argsT x) (k:=(bW (headT x)).toNat);have q:((argsT x).map row)[(bW (headT x)).toNat]?=some (row z):=by rw[JX,s];rfl
    refine gm (E9 (ys:=argsT x) (λy b=>⟨(e.args y b).ok,(e.args y b).len⟩) Uo) ?_;refine ae (z3 j E) ?_;refine az (bW (headT x)).toNat q ?_;refine eH q<|⟨_,_,rfl,rfl,?_⟩;unfold bD;rw[List.map_set,List.map_set]
    rfl
   ·cases b
  ·cases b
end
theorem vu{Q:Nd ->Prop}{N:Int}{x:Tr}(h:Ft Q N x)(h1:x.n.op=1):0<=x.n.a/\x.n.a<N:=by
 obtain⟨n,ks⟩:=x;exact⟨(h.var_lt h1).1,(h.var_lt h1).2.1⟩
def iZ(B:ak)(cx:Ctx)(n:Int):List PV:=[.int .i64 B.vars,.sl (B.orders.map eZ),.sl (B.ents.map cj),.int .i64 B.nat,.sl (B.prims.map iU),aH (cx.map aA),pI n]
section
variable{B:ak}{cx:Ctx}{N:Int}{x:Tr}{fu:Int}
theorem L0(K:GoodB B){n:Nd}(L:QB B n)(z:n.op=11){s:Tr}(w:Ft (QB B) N s):VP prog 215 245 (iZ B cx fu) (iZ B cx fu) [.agg (ndP n),gv s] (.bool (iT B n s)):=by
 have O:=aC w.head;obtain⟨i,e,Y,Z,qi,hi,R,T,j,C⟩:=K.fam (iS L (.inr z)) (KJ _);have e1:=au (λt=>[ah t]) ((argsT s).map row);have e2:=au row (argsT s);have e3:=au (λt=>[ah t]) e.params;have H:=w.nargs;have D:=dn w.head.ok.pl;obtain⟨c,E⟩:∃c,(headT s).n=c:=⟨_,rfl⟩
 have I:=w.head.node';rw[E]at D I;have b:iT B n s=(decide (c.op=10) && (decide (c.a=n.a) && (decide (c.b<n.b) && decide ((argsT s).length=e.params.length+(cS B n.a c.b).args.length)))):=by
  unfold iT fJ;rw[E,j]
 refine aP (r:=.ok (iZ B cx fu,.bool (iT B n s))) 57 [.tmp 6] τok func215 ?_;refine aj<|aI 0 (aL O) ?_;refine de i T ?_;refine vk ?_;rw[E];refine af (λk=>?_) (λk=>?_);rotate_left
 ·refine vk ?_
  rw[b,KH k];exact eP9
 have k:c.op=10:=k;refine af (λl=>?_) (λl=>?_);rotate_left
 ·refine vk ?_
  rw[b,KH (p:=c.a=n.a) l,Bool.false_and,Bool.and_false];exact eP9
 have l:c.a=n.a:=l;refine af (λo=>?_) (λo=>?_);rotate_left
 ·refine vk ?_
  rw[b,KH (p:=c.b<n.b) o,Bool.false_and,Bool.and_false,Bool.and_false];exact eP9
 have o:c.b<n.b:=o;have F:=uV I k;rw[l,j]at F;obtain⟨q,d⟩:∃q,e.ctors[c.b.toNat]?=some q:=⟨_,gE⟩
 have h:cS B n.a c.b=q:=by
  unfold cS;rw[j,QK,d]
  rfl
 have e4:=au (λt=>[ah t]) q.args;obtain⟨ga,go,v⟩:=C.ct _ q d;have V:e.params.length<=16:=by rw[C.params,KF];exact C.lp
 have W:q.args.length<=16:=by rw[v.args,KF];exact v.la
 refine gI c.b.toNat d ?_;refine vi ?_;refine af (λX=>?_) (λX=>?_)
 ·refine vk ?_
  rw[b,h,KU k,KU l,KU o,KU Uo];exact eP9
 ·refine vk ?_
  rw[b,h,KU k,KU l,KU o,KH Uo];exact eP9
theorem L1(hB:GoodB B)(a0:cx.length<=100000)(V:Ft (QB B) (cx.length:Int) x):VP prog 176 245 (iZ B cx fu) (iZ B cx fu) [gv x] (.bool (cD B cx x)):=by
 have j:=V.head;have W:=aC j;have e1:=au (λt=>[ah t]) ((argsT x).map row);have e2:=au row (argsT x);have eC:=au bdP (cx.map aA);have a1:=au aA cx;have hq:=j.node';have E:=λ(h1:(headT x).n.op=1)=>vu j h1;generalize d:cD B cx x=F;unfold cD at d;simp only at d
 generalize K:headT x=h at *
 refine aP (r:=.ok (iZ B cx fu,.bool F)) 76 [.tmp 4] τok func176 ?_;refine aj ?_;unfold gv;rw[K];refine aI 0 (aL W) ?_;refine af (λv=>?_) (λv=>?_)
 ·have v:h.n.op=5:=v
  rw[KX v]at d;refine af (λg=>?_) (λg=>?_)
  ·have g:(0:Int)<((((argsT x).map row).map λt=>[ah t]).length:Int):=g
   rw[KU Uo]at d;subst d;exact eP9
  ·have g:¬ (0:Int)<((((argsT x).map row).map λt=>[ah t]).length:Int):=g
   rw[KH Uo]at d;subst d;exact eP9
 have v:¬ h.n.op=5:=v;rw[KY v]at d;refine af (λC=>?_) (λC=>?_)
 ·have C:h.n.op=7:=C
  rw[KX (.inl C)]at d;subst d;exact eP9
 have C:¬ h.n.op=7:=C;refine af (λD=>?_) (λD=>?_)
 ·have D:h.n.op=8:=D
  rw[KX (.inr D)]at d;subst d;exact eP9
 have D:¬ h.n.op=8:=D;rw[KY Uo]at d;refine af (λo=>?_) (λo=>?_)
 ·have o:h.n.op=1:=o
  rw[KX o]at d;obtain⟨n0,n1⟩:=E o;have H:=oe n0 n1;obtain⟨⟨ty,w⟩,L⟩:∃q,fY cx h.n.a=q:=⟨_,rfl⟩
  rw[L]at H d;have O:(cx.map aA)[cx.length-1-h.n.a.toNat]?=some (row ty,nF' w):=by rw[JX,H];rfl
  have e3:=au ndP (nF' w);have X:=KS w;refine vi ?_;refine vi ?_;refine vm (p:=bdP) (cx.length-1-h.n.a.toNat) O ?_ Uo;refine af (λg=>?_) (λg=>?_)
  ·have g:(0:Int)<(((nF' w).map ndP).length:Int):=g
   rw[X.1 Uo]at d;subst d;exact kP9
  ·have g:¬ (0:Int)<(((nF' w).map ndP).length:Int):=g
   have:w.isSome=false:=by
    cases hs:w.isSome with
    |false=>rfl
    |true=>
     have:=X.2 hs;omega
   rw[this]at d;subst d;exact kP9
 have o:¬ h.n.op=1:=o;rw[KY o]at d;refine af (λe=>?_) (λe=>?_)
 ·have e:h.n.op=11:=e
  rw[KX e]at d;obtain⟨Y,a2,_,_⟩:=hH j.ok e;have Z:=j.kidN 1 (by rw[Y];omega) (b:=0) (by simp[kb,bh,e]);have s:=L0 (cx:=cx) (fu:=fu) hB hq e Z;rw[d]at s;refine ae (iY j) ?_;refine az 1 (aF W (by rw[Y];omega)) ?_;refine ae (qz Z) ?_;refine ax s ?_;exact kP9
 have e:¬ h.n.op=11:=e;rw[KY e]at d;refine af (λi=>?_) (λi=>?_)
 ·have i:h.n.op=12:=i
  rw[KX i]at d;obtain⟨f,hf,a3,a4,a5⟩:=og j.ok i;refine ae (z3 j i) ?_;refine af (λI=>?_) (λI=>?_)
  ·have I:bW h<((((argsT x).map row).map λt=>[ah t]).length:Int):=I
   rw[KU (show bW h<((argsT x).length:Int) by omega),Bool.true_and]at d;obtain⟨z,R,_⟩:=ay (l:=argsT x) (k:=(bW h).toNat);rw[QK,R]at d;have d:decide ((headT z).n.op=10)=F:=d;have fz:=V.args z (JQ R);refine az (bW h).toNat (x:=row z) (by rw[JX,R];rfl) ?_;refine ae (qz fz) ?_;refine aI 0 (aL (aC fz.head)) ?_;refine af (λT=>?_) (λT=>?_)
   ·rw[KU (p:=(headT z).n.op=10) T]at d
    subst d;exact eP9
   ·rw[KH (p:=(headT z).n.op=10) T]at d
    subst d;exact eP9
  ·have I:¬ bW h<((((argsT x).map row).map λt=>[ah t]).length:Int):=I
   rw[KH (show ¬ bW h<((argsT x).length:Int) by omega),Bool.false_and]at d;subst d;exact eP9
 ·have i:¬ h.n.op=12:=i
  rw[KY i]at d;subst d;exact eP9
end
theorem dH{x y:Tr}{a q:List Nd}(e:row x=a++(row y++q)){p n:Nat}(b:p=a.length)(d:n=a.length+(row y).length):PV.sl ((((row x).map ndP).take n).drop p)=ah (row y):=by
 subst b d;rw[e,<- List.map_take,<- List.map_drop,<- List.append_assoc,<- JK,List.take_left' rfl,List.drop_left' rfl]
 rfl
section
variable{Q:Nd ->Prop}{N:Int}{x y p:Tr}
theorem L2(b:Ft Q N x):VO prog 83 [ah (row x)] 46 3 ((row x).map ndP):=sG (aZ x) (by have:=b.len;omega)
theorem L3(n:Nat)(b:n<=1000000):VO prog 242 [.raw (.slice none 0 0),pI n] 29 1 []:=zY ⟨_,func242,rfl,UO⟩ (K1 n b)
def rQ(L:List (List Nd)):List PV:=[.sl (L.map rP)]
theorem L4{L:List (List (List Nd))}(hl:L.length<=1000000)(h1:L.flatten.length<=1000000):VC prog 217 [.sl (L.map rQ)] (bD L.flatten):=by
 have q:=au rQ L;refine VO.vc (e:=29) (sz:=1)<|mS 36 [.tmp 2] τok func217 ?_;refine aj<|aB τok (σ:=Nat) [(0,_),(9,_),(10,_)] [] (λi=>[(11,vI i),(3,vI ((L.take i).flatten.length:Nat))]) (λ_=>[]) (λi=>i<=L.length) (λi=>L.length-i) 0 (KV _) ?_;intro i h;have j:=jo L i;refine aj<|af (λg=>?_) (λg=>?_)
 ·have g:(i:Int)<((L.map rQ).length:Int):=g
  obtain⟨x,b,_⟩:=ay (l:=L) (k:=i);have o:=pg b;have d:=jo L (i+1);have r:=au rP x;refine vm (p:=rQ) i b ?_;refine vi ?_;refine vn ?_;refine vi ?_;exact aw (i+1) (show i+1<=_ by omega) (x:=⟨rfl,KG (λz=>some (vI z)) (by show ((L.take i).flatten.length:Int)+(x.map rP).length=_;omega),trivial⟩)
 have g:¬ (i:Int)<((L.map rQ).length:Int):=g;obtain rfl:i=L.length:=Uo
 rw[List.take_length];refine aT (λ_=>100) (λ_=>0) (L3 L.flatten.length h1) ?_;refine aB τok (σ:=Nat) [(25,_),(26,_)] [] (λi=>[(27,vI i),(6,.c (.row 100))]) (λi=>[(100,.rw 29 1 ((L.take i).flatten.map rP))]) (λi=>i<=L.length) (λi=>L.length-i) 0 (KV _) ?_;intro i h;have j:=jo L i;refine aj<|af (λg=>?_) (λg=>?_)
 ·have g:(i:Int)<((L.map rQ).length:Int):=g
  obtain⟨x,b,_⟩:=ay (l:=L) (k:=i);have o:=pg b;have d:=jo L (i+1);refine vm (p:=rQ) i b ?_;refine va ?_ (jM x) (hb:=by rw[KF];omega);refine vi ?_;exact aw (i+1) (show i+1<=_ by omega) (f:=λk=>sw 100 33 k) (y':=⟨KG (λl=>some (SE.rw _ _ l)) (by show _++_=((L.take (i+1)).flatten).map rP;rw[QQ,b];simp),trivial⟩)
 have g:¬ (i:Int)<((L.map rQ).length:Int):=g;obtain rfl:i=L.length:=Uo
 rw[List.take_length];exact⟨100,rfl,rfl⟩
theorem L5{ys zs:List Tr}{L M:List (List PV)}(b:L=(ys.map row).map rP)(d:M=(zs.map row).map rP)(i:∀y∈ys,Ft Q N y)(j:∀y∈zs,Ft Q N y)(hl:ys.length<=5000)(e:zs.length<=5000):VC prog 217 [.sl [[.sl L],[.sl M]]] (bD ((ys++zs).map row)):=by
 have h:=L4 (L:=[ys.map row,zs.map row]) Ud Uk;rw[show [ys.map row,zs.map row].flatten=(ys++zs).map row by simp]at h;rw[b,d];exact h
theorem L6(E:Qk Q)(s:Ft Q N x)(l:x.n.op=12)(Y:0<=N)(Z:N<=90000):VX prog 218 [ah (row x)] (match lN x with
  | .ok z=>.ok (ah (row z))
  | .error e=>.error (fI e)):=by
 have w:=aC s;have hl:=dp s.ok l;have hk:=fA s.ok l;generalize h:lN x=o;unfold lN at h;have F:kb x.n (2*x.n.a.toNat+1)=x.n.b:=by
  unfold kb;rw[KX l,KX Uo]
 have T:=s.kidN (2*x.n.a.toNat+1) Uo F;obtain⟨L,H⟩:∃k,x.n.b.toNat=k:=⟨_,rfl⟩
 rw[H]at h;refine nU 45 [.tmp 2] τok func218 ?_;refine aj<|aI 0 (aL w) ?_;refine ae (iY s) ?_;refine aI 0 (aL w) ?_;refine vi ?_;refine vi ?_;refine az (2*x.n.a.toNat+1) (aF w) ?_;refine vk ?_;refine vi ?_;refine aB τok (σ:=Nat×Tr) [(0,_)] [] (λq=>[(4,vP (ah (row q.2))),(5,vI ((q.1:Int)-1))]) (λ_=>[]) (λq=>q.1<=L/\Ft Q (N+q.1) q.2/\j8 x q.1 q.2=o) (λq=>q.1) (L,kidD x (2*x.n.a.toNat+1)) ⟨KJ _,T.mono Uo,h⟩ ?_ (x1:=⟨rfl,KG (λn:Int=>some (vI n)) Us,trivial⟩)
 clear h
 rintro⟨i,b⟩ ⟨V,I,d⟩;simp only at V I d;refine aj<|af (λg=>?_) (λg=>?_)
 ·have g:(i:Int)-1≥0:=g
  obtain⟨j,rfl⟩:∃j,i=j+1:=⟨i-1,Uo⟩
  have W:((j+1:Nat):Int)-1=(j:Int):=Uo
  rw[W];have O:=s.fixAt E l (i:=(j:Int)) Uo Uo;have R:=O.lift E (b:=(j:Int)) Uo Uo Uo;have X:(((row x).map ndP).set 0 [pI x.n.op,pI j,pI x.n.b])=(row (fixAt x j)).map ndP:=by
   cases x
   rfl
  have K:=lQ O Uo (b:=(j:Int)) Uo;have C:VC prog 85 [.sl (((row x).map ndP).set 0 [pI x.n.op,pI j,pI x.n.b]),pI j,pI 0] (.tup [ah (row (aK (fixAt x j) j 0)),pI 0]):=by
   rw[X];exact K
  have r:=ph (x:=b) (u:=aK (fixAt x j) j 0) (v:=0) (N:=N+j) (I.mono Uo) R Uo Uo;simp only[j8]at d;refine gm (L2 s) ?_;refine aI 0 (aL w) ?_;refine eH (aL w)<|ae C ?_;refine ae (fO _) ?_;cases D:bq b (aK (fixAt x j) j 0) 0 with
  |error e=>
   have he:=jp D;rw[D]at r d;obtain rfl:.error e=o:=d;refine ae r ?_;refine bK (jN _ (show e≠0 by omega)) ?_;exact rfl
  |ok z=>
   rw[D]at r d;have d:j8 x j z=o:=d;refine ae r ?_;refine ae (fO _) ?_;refine vi ?_;exact aw (j,z) ⟨Us,(jk E (N:=N+j) (I.mono Uo) R Uo Uo (Int.le_refl 0) UO D).mono Uo,d⟩
 ·have g:¬ (i:Int)-1≥0:=g
  obtain rfl:i=0:=Uo
  obtain rfl:.ok b=o:=d;exact aE
end
def Fc(B:ak)(cx:Ctx)(n:Int)(r:Except Int Tr):Except (List PanicEntry) (List PV×PV):=match r with
 | .ok z=>.ok (iZ B cx n,gv z)
 | .error e=>.error (fI e)
section
variable{B:ak}{cx:Ctx}{x:Tr}{fu:Int}
theorem z4(l:List (List Nd)):∀z∈l.map rP,z.length=1:=λz b=>by
 obtain⟨_,_,rfl⟩:=List.mem_map.1 b
 rfl
theorem z5(hB:GoodB B)(a4:CxOk B cx)(a':cx.length<=90000)(hx:Ft (QB B) (cx.length:Int) x)(hr:cD B cx x=true):eW prog 177 245 (iZ B cx fu) [gv x] (Fc B cx fu (hY B cx x)):=by
 have D:=qk B;have w:=hx.head;have wh:=aC w;have K:=hx.args;have hn:=hx.nargs;have b0:=hx.len;have b1:=w.len;have e1:=au (λt=>[ah t]) ((argsT x).map row);have e2:=au row (argsT x);have eC:=au bdP (cx.map aA);have b2:=au aA cx;have hq:=w.node';have a1:=λ(h1:(headT x).n.op=1)=>vu w h1;generalize d:hY B cx x=j;unfold hY at d;unfold cD at hr;simp only at d hr;refine aP (r:=Fc B cx fu j) 149 [.cell 4 191] τok func177 ?_;refine aj ?_;unfold gv
 generalize b3:headT x=h at *
 generalize b4:argsT x=l at *
 have e3:=au ndP (row h);refine aI 0 (aL wh) ?_;refine af (λO=>?_) (λO=>?_)
 ·have O:h.n.op=5:=O
  rw[KX O]at d hr;obtain⟨k2,f0,f1⟩:=dq w (.inr O);obtain⟨r1,r2,r3⟩:=oj w.ok (.inr O);have hr:=of_decide_eq_true hr;obtain⟨y,E,_⟩:=ay (l:=l) (k:=0);rw[QK,E]at d;have a2:=JQ E;have d:(bq (kidD h 1) y 0).bind (λs=>aO s (l.drop 1))=j:=d;have R:=ph (x:=kidD h 1) (u:=y) (v:=0) (N:=(cx.length:Int)) (f1.mono Uo) (K y a2) Uo Uo;refine ae (endP w (a:=[h.n]) (y:=kidD h 0) (q:=row (kidD h 1)) (r1) f0.ok rfl) ?_;have X:=KG List.length r2;simp only[JK,JV]at X;refine bH (1+(row (kidD h 0)).length) (row h).length ?_ (df _) (h1:=rfl) (h3:=Uo) (h4:=Uo);rw[dH (a:=h.n::row (kidD h 0)) (y:=kidD h 1) (q:=[]) (by rw[JD];exact r2) (by rw[JV];omega) (by rw[JV];omega)];refine vk ?_;refine az 0 (x:=row y) (by rw[JX,E];rfl) ?_;cases T:bq (kidD h 1) y 0 with
  |error e=>
   have he:=jp T;rw[T]at R d;obtain rfl:.error e=j:=d;refine ae R ?_;refine bK (jN _ (show e≠0 by omega)) ?_;refine r7 [false,false,false,true,true] ?_;refine bH 1 l.length ?_ (z4 _);refine vk ?_;exact rfl
  |ok u=>
  rw[T]at R d;refine ae R ?_;refine ae (fO _) ?_;have d:aO u (l.drop 1)=j:=d;have F:=jk D (f1.mono Uo) (K y a2) Uo Uo (Int.le_refl 0) UO T;have o:=qA D (x:=u) (ys:=l.drop 1) F (λy E=>(K y (List.mem_of_mem_drop E)).mono Uo) Uk;have a5:VX prog 216 [ah (row u),.sl ((((l.map row).map rP).take l.length).drop 1)] (match aO u (l.drop 1)with
   | .ok z=>.ok (gv z)
   | .error e=>.error (fI e)):=by
   rw[JG Ud,<- List.map_drop,<- List.map_drop];exact o
  replace o:=a5
  refine bH 1 l.length ?_ (z4 _);cases C:aO u (l.drop 1)with
  |error e=>
   rw[C]at o d;obtain rfl:.error e=j:=d;refine bK o ?_;refine gq ?_;refine vk ?_;exact rfl
  |ok z=>
   rw[C]at o d;obtain rfl:.ok z=j:=d;refine ae o ?_;exact kP9
 have O:¬ h.n.op=5:=O;rw[KY O]at d hr;refine af (λV=>?_) (λV=>?_)
 ·have V:h.n.op=7:=V
  rw[KX V]at d;obtain⟨k3,f0,f1,f2⟩:=kU w V;obtain⟨_,_,_,r1,r2,r3⟩:=qx w.ok V;have X:=KG List.length r3;simp only[JK,JV]at X;have d:(bq (kidD h 2) (kidD h 1) 0).bind (λs=>aO s l)=j:=d;have R:=ph (x:=kidD h 2) (u:=kidD h 1) (v:=0) (N:=(cx.length:Int)) (f2.mono Uo) f1 Uo Uo;refine ae (endP w (a:=[h.n]) (y:=kidD h 0) (q:=row (kidD h 1)++row (kidD h 2)) r1 f0.ok rfl) ?_;refine ae (endP w (a:=h.n::row (kidD h 0)) (y:=kidD h 1) (q:=row (kidD h 2)) r2 f1.ok Uk) ?_;refine bH ((h.n::row (kidD h 0)).length+(row (kidD h 1)).length) (row h).length ?_ (df _) (h1:=rfl) (h3:=by rw[JV];omega) (h4:=Uo);rw[dH (a:=h.n::(row (kidD h 0)++row (kidD h 1))) (y:=kidD h 2) (q:=[]) (by rw[JD];exact r3) (by rw[JV,JV,JK];omega) (by rw[JV,JK];omega)];refine bH (1+(row (kidD h 0)).length) ((h.n::row (kidD h 0)).length+(row (kidD h 1)).length) ?_ (df _) (h1:=rfl) (h3:=by rw[JV];omega) (h4:=by rw[JV];omega);rw[dH r2 (by rw[JV];omega) rfl];cases T:bq (kidD h 2) (kidD h 1) 0 with
  |error e=>
   have he:=jp T;rw[T]at R d;obtain rfl:.error e=j:=d;refine ae R ?_;refine bK (jN _ (show e≠0 by omega)) ?_;refine r7 [false,false,true,true] ?_
   skip
   refine vk ?_;exact rfl
  |ok u=>
  rw[T]at R d;refine ae R ?_;refine ae (fO _) ?_;have d:aO u l=j:=d;have F:=jk D (f2.mono Uo) f1 Uo Uo (Int.le_refl 0) UO T;have o:=qA D (x:=u) (ys:=l) F (λy E=>(K y E).mono Uo) Uo;cases C:aO u l with
  |error e=>
   rw[C]at o d;obtain rfl:.error e=j:=d;refine bK o ?_;refine gq ?_;refine vk ?_;exact rfl
  |ok z=>
   rw[C]at o d;obtain rfl:.ok z=j:=d;refine ae o ?_;exact kP9
 have V:¬ h.n.op=7:=V;rw[KY V]at d;refine af (λI=>?_) (λI=>?_)
 ·have I:h.n.op=1:=I
  rw[KX I]at d;rw[KY Uo,KX I]at hr;obtain⟨n0,n1⟩:=a1 I;have Y:=oe n0 n1;obtain⟨⟨ty,vv⟩,a6⟩:∃q,fY cx h.n.a=q:=⟨_,rfl⟩
  rw[a6]at Y d hr;have a7:(cx.map aA)[cx.length-1-h.n.a.toNat]?=some (row ty,nF' vv):=by rw[JX,Y];rfl
  cases vv with
  |none=>cases hr
  |some v=>
   have fv:=(a4 _ _ Y).2 v rfl;have fl:=fv.lift D (b:=h.n.a+1) Uo Uo Uo;have d:aO (aK v (h.n.a+1) 0) l=j:=d;have o:=qA D (x:=aK v (h.n.a+1) 0) (ys:=l) (N:=(cx.length:Int)) (fl.mono Uo) K Uo;refine vi ?_;refine vi ?_;refine vm (p:=bdP) (cx.length-1-h.n.a.toNat) a7 ?_ Uo;refine vi ?_;refine ae (lQ fv Uo Uo) ?_;refine ae (fO _) ?_;cases C:aO (aK v (h.n.a+1) 0) l with
   |error e=>
    rw[C]at o d;obtain rfl:.error e=j:=d;refine bK o ?_;refine gq ?_;refine vk ?_;exact rfl
   |ok z=>
    rw[C]at o d;obtain rfl:.ok z=j:=d;refine ae o ?_;exact kP9
 have I:¬ h.n.op=1:=I;rw[KY I]at d;refine af (λW=>?_) (λW=>?_)
 ·have W:h.n.op=8:=W
  rw[KX W]at d;obtain⟨i,e,ty,bo,hi,he,Z,hD⟩:=hB.dfn hq W;rw[Z,hD.body,jJ hD.fb.ok]at d;have fb:Ft (QB B) (cx.length:Int) bo:=(hD.fb.wk λm hm=>mZ (Nat.le_of_lt (aM he)) hm).mono Uo;have o:=qA D (x:=bo) (ys:=l) fb K Uo;rw[<- hD.body]at o;refine de i he ?_;cases C:aO bo l with
  |error e=>
   rw[C]at o d;obtain rfl:.error e=j:=d;refine bK o ?_;refine gq ?_;refine vk ?_;exact rfl
  |ok z=>
   rw[C]at o d;obtain rfl:.ok z=j:=d;refine ae o ?_;exact kP9
 have W:¬ h.n.op=8:=W;rw[KY W]at d;rw[KY Uo,KY I]at hr;refine af (λH=>?_) (λH=>?_)
 ·have H:h.n.op=11:=H
  rw[KX H]at d hr;obtain⟨hk,b5,_,_⟩:=hH w.ok H;have fk:=w.kidN 1 (by rw[hk];omega) (b:=0) (by simp[kb,bh,H]);rw[Int.add_zero]at fk;obtain⟨c1,c2,c3,c4,c5⟩:=EL hB fk hr;obtain⟨i,e,s',ps,qi,hi,b6,he,Z,hF⟩:=hB.fam (iS hq (.inr H)) (KJ _);have a8:fJ B h.n.a=e.params.length:=by unfold fJ;rw[Z]
  have e4:=au (λt=>[ah t]) e.params;have b7:=fk.nargs;have b8:=fk.len;have fb:=w.kidN (2+(headT (kidD h 1)).n.b.toNat) (by rw[hk];omega) (b:=0) (by simp[kb,bh,H]);rw[Int.add_zero]at fb;have eL:=au rP ((argsT (kidD h 1)).map row);have b9:=au (λt=>[ah t]) ((argsT (kidD h 1)).map row);have b':=au row (argsT (kidD h 1));have a3:∀y∈(argsT (kidD h 1)).drop e.params.length,Ft (QB B) (cx.length:Int) y:=λy E=>fk.args y (List.mem_of_mem_drop E);rw[a8]at d c5;have a9:=L5 (L:=(((argsT (kidD h 1)).map row).map rP|>.take (argsT (kidD h 1)).length).drop e.params.length) (M:=(l.map row).map rP) (ys:=(argsT (kidD h 1)).drop e.params.length) (zs:=l) (by rw[JG Uo,<- List.map_drop,<- List.map_drop]) rfl a3 K Uk Uo;have o:=qA D (x:=kidD h (2+(headT (kidD h 1)).n.b.toNat)) (ys:=(argsT (kidD h 1)).drop e.params.length++l) fb (λy E=>(List.mem_append.1 E).elim (a3 y) (K y)) Uk;refine ae (iY w) ?_;refine az 1 (aF wh (by rw[hk];omega)) ?_;refine ae (qz fk) ?_;refine aI 0 (aL (aC fk.head)) ?_;refine vi ?_;refine az (2+(headT (kidD h 1)).n.b.toNat) (aF wh (by rw[hk];omega)) ?_;refine de i he ?_;refine bH e.params.length (argsT (kidD h 1)).length ?_ (z4 _);refine ae a9 ?_;cases C:aO (kidD h (2+(headT (kidD h 1)).n.b.toNat)) ((argsT (kidD h 1)).drop e.params.length++l)with
  |error e=>
   rw[C]at o d;obtain rfl:.error e=j:=d;refine bK o ?_;refine gq ?_;refine vk ?_;exact rfl
  |ok z=>
   rw[C]at o d;obtain rfl:.ok z=j:=d;refine ae o ?_;exact kP9
 have H:¬ h.n.op=11:=H;rw[KY H]at d hr;have g6:h.n.op=12:=by
  by_cases g6:h.n.op=12
  ·exact g6
  ·rw[KY g6]at hr
   cases hr
 have hu:=L6 D w g6 Uo Uo;cases a0:lN h with
 |error e=>
  rw[a0]at hu d;obtain rfl:.error e=j:=d;refine bK hu ?_;refine r7 [false,false,true,true] ?_;refine vk ?_;exact rfl
 |ok u=>
  rw[a0]at hu d;have d:aO u l=j:=d;have F:=zB D w g6 Uo Uo a0;have o:=qA D (x:=u) (ys:=l) F K Uo;refine ae hu ?_;cases C:aO u l with
  |error e=>
   rw[C]at o d;obtain rfl:.error e=j:=d;refine bK o ?_;refine gq ?_;refine vk ?_;exact rfl
  |ok z=>
   rw[C]at o d;obtain rfl:.ok z=j:=d;refine ae o ?_;exact kP9
end
def Fe(B:ak)(cx:Ctx)(r:Except Int (Tr×Nat)):Except (List PanicEntry) (List PV×PV):=match r with
 | .ok q=>.ok (iZ B cx q.2,gv q.1)
 | .error e=>.error (fI e)
section
variable{B:ak}{cx:Ctx}
theorem L7(I:GoodB B)(s:CxOk B cx)(w:cx.length<=90000):∀(G:Nat) (x:Tr) (room:Int) (n:Nat),Ft (QB B) (cx.length:Int) x ->len x<=room ->room<=4096 ->n<=1000000 ->n*5000+(row x).length<=G ->
  eW prog 129 245 (iZ B cx n) [gv x,pI room] (Fe B cx (cz B cx G x room n)):=by
 intro G
 induction G using Nat.strongRecOn with
 |_ G ih=>
 intro x room n hx hl hr hn hG;generalize i:cz B cx G x room n=h;refine aP (r:=Fe B cx h) 53 [.cell 6 191] τok func129 ?_;refine aj<|aB τok (σ:=Nat×Tr×Nat) [(0,_),(2,_),(4,_),(6,_)] [(6,_)] (λ_=>[]) (λq=>[(0,.st 1 245 ((iZ B cx q.2.2).map .p)),(4,.st 0 191 [.p (ah (row (headT q.2.1))),.p (bD ((argsT q.2.1).map row))])]) (λq=>q.1<=G/\q.2.2*5000+(row q.2.1).length<=q.1/\q.2.2<=n/\cz B cx q.1 q.2.1 room q.2.2=h/\Ft (QB B) (cx.length:Int) q.2.1/\len q.2.1<=room) (λq=>q.1) (G,x,n) ⟨KJ _,hG,KJ _,i,hx,hl⟩ ?_
 clear i
 rintro⟨g,y,m⟩ ⟨T,V,W,b,l,C⟩;simp only at T V W b l C;have a2:=aZ y;obtain⟨D,rfl⟩:∃D,g=D+1:=⟨g-1,Uo⟩
 simp only[cz]at b;refine VCode.blk<|eo τok (σ:=Tr×Nat) [(0,_),(2,_),(4,_),(6,_)] [(6,_)] (λ_=>[]) (λq=>[(0,.st 1 245 ((iZ B cx q.2).map .p)),(4,.st 0 191 [.p (ah (row (headT q.1))),.p (bD ((argsT q.1).map row))])]) (λq=>jm B cx (cz B cx D) room q=h/\q.2<=m/\Ft (QB B) (cx.length:Int) q.1/\len q.1<=room) ?_ ?_
 ·have hP:=LX l
  cases o:cE y with
  |none=>
   simp only[jl,o]at b;rw[o]at hP;refine ae hP ?_;exact aw (y,m) ⟨b,KJ _,l,C⟩
  |some p=>
   simp only[jl,o]at b;rw[o]at hP;obtain⟨E,a3⟩:=kQ l o;have eP:=au ndP (row p);have F:=C;unfold len at F;have K:=ih D Uo p (room-len y+len p) m E (by unfold len;omega) (by unfold len;omega) Uo Uo;refine ae hP ?_;refine ae (qz E) ?_;refine ae (Fb l) ?_;refine vi ?_ (by simp only[len];omega) (by simp only[len];omega);refine vi ?_ (by simp only[len];omega) (by simp only[len];omega);have eR:room-len y+((((row p).map ndP).length:Nat):Int)=room-len y+len p:=by unfold len;omega
   rw[eR];cases X:cz B cx D p (room-len y+len p) m with
   |error e=>
    rw[X]at K b;obtain rfl:.error e=h:=b;refine bG K ?_;refine gq ?_;refine vk ?_;exact rfl
   |ok q=>
    obtain⟨q1,q2⟩:=q;rw[X]at K b;obtain⟨f1,l1,l2⟩:=qr I s w D p _ m q1 q2 E (by unfold len;omega) (by unfold len;omega) X;have a4:=sB (p:=q1) l o;unfold len at l1;have H:(row (bN y q1)).length<=4096:=Uo
    have Y:=(zC (qk B) l f1 o H).1;refine ax K ?_;refine ae (Fa f1) ?_;refine ae (LZ (qk B) l f1 o H) ?_;refine vk ?_;exact aw (bN y q1,q2) ⟨b,l2,Y,by simp only[len];omega⟩
 ·rintro⟨z,k⟩ ⟨b,Z,L,a0⟩
  simp only at b Z L a0;have O:=L1 (fu:=(k:Int)) I Uo L;unfold jm at b;simp only at b;refine aj ?_;cases d:cD B cx z with
  |false=>
   rw[d,KY UO]at b;rw[d]at O;subst b;refine ax O ?_;exact eP9
  |true=>
   rw[d,KX rfl]at b;rw[d]at O;refine ax O ?_;refine af (λg=>?_) (λg=>?_)
   ·have g:(k:Int)=0:=g
    rw[KX Uo]at b;subst b;exact qe (EF _)<|rfl
   ·have g:¬ (k:Int)=0:=g
    rw[KY Uo]at b;have R:=z5 (fu:=(k:Int)) I s w L d;cases ho:hY B cx z with
    |error e=>
     rw[ho]at R b;obtain rfl:.error e=h:=b;refine bG R ?_;exact rfl
    |ok v=>
     rw[ho]at R b;have fv:=uW I s w L d ho;have hW:=LW fv room;refine ax R ?_
     by_cases hb:room<len v
     ·simp only[KX hb]at b hW
      subst b;refine bK hW ?_;exact rfl
     ·simp only[KY hb]at b hW
      obtain⟨j,rfl⟩:∃j,k=j+1:=⟨k-1,Uo⟩
      rw[Nat.add_sub_cancel]at b;have a1:len v<=room:=Uo
      unfold len at a1;refine ae hW ?_;refine vi ?_;exact aw (D,v,j) ⟨Us,Us,Us,b,fv,Us⟩ (y':=⟨KG (λn:Int=>some (SE.st 1 _ ((iZ B cx n).map .p))) Us,rfl,trivial⟩)
end
def bA(f:Int):Nat:=(min (max f 0) 100000).toNat
@[irreducible] def GW:Nat:=600000000
theorem Iq':600000000<=GW:=by unfold GW;exact KJ _
def dW(B:ak)(cx:Ctx)(x:Tr)(fuel:Int):Except Int (Tr×Nat):=cz B cx GW x 4096 (bA fuel)
section
variable{B:ak}{cx:Ctx}
theorem Ff{x:Tr}{er:Int}(h:hY B cx x= .error er):er=9:=by
 have j:∀{b u:Tr} {v e:Int},bq b u v= .error e ->e=9:=λ{b u v e} h=>by
  unfold bq at h;split at h
  ·injection h with h;exact h.symm
  ·cases h
 have d:∀{b:Tr} {l:List Tr} {e:Int},aO b l= .error e ->e=9:=λ{b l e} h=>by
  unfold aO at h;split at h
  ·injection h with h;exact h.symm
  ·cases h
 have k:∀{m:Except Int Tr} {l:List Tr} {e:Int},(∀e,m= .error e ->e=9) ->(m.bind λs=>aO s l)= .error e ->e=9:=λ{m l e} q h=>by
  cases m with
  |error r=>injection h with h;rw[<- h];exact q _ rfl
  |ok s=>exact d h
 have w:∀(f:Tr) (i:Nat) (b:Tr) (e:Int),j8 f i b= .error e ->e=9:=by
  intro f i
  induction i with
  |zero=>intro b e h;cases h
  |succ i z=>
   intro b e h;simp only[j8]at h;cases o:bq b (aK (fixAt f i) i 0) 0 with
   |error r=>rw[o]at h;injection h with h;rw[<- h];exact j o
   |ok s=>rw[o]at h;exact z _ _ h
 unfold hY at h;simp only at h;split at h
 ·exact k (λe=>j) h
 split at h
 ·exact k (λe=>j) h
 split at h
 ·exact d h
 split at h
 ·exact d h
 split at h
 ·exact d h
 ·exact k (λe=>w _ _ _ _) h
theorem whnf_er:∀(g:Nat) (x:Tr) (room:Int) (n:Nat) (er:Int),cz B cx g x room n= .error er ->er=9 \/er=10
 |0,x,room,n,er,h=>by injection h with h;exact .inr h.symm
 |g+1,x,room,n,er,h=>by
  simp only[cz]at h;have d:∀q,jm B cx (cz B cx g) room q= .error er ->er=9 \/er=10:=λq h=>by
   unfold jm at h;split at h
   ·split at h
    ·injection h with h;exact .inr h.symm
    ·cases i:hY B cx q.1 with
     |error e=>rw[i]at h;injection h with h;rw[<- h];exact .inl (Ff i)
     |ok z=>
      rw[i]at h;simp only at h;split at h
      ·injection h with h;exact .inl h.symm
      ·exact whnf_er g _ _ _ _ h
   ·cases h
  cases b:jl (cz B cx g) x room n with
  |error e=>
   rw[b]at h;injection h with h
   subst h;unfold jl at b;split at b
   ·cases b
   ·split at b
    ·rename_i j
     injection b with b
     subst b;exact whnf_er g _ _ _ _ j
    ·cases b
  |ok q=>rw[b]at h;exact d q h
def Fh(X:List Nat)(w:World)(r:Except Int (Tr×Nat))(e:Ending)(w':World):Prop:=
 (match r with
  | .ok q=>∃u,e= .returned (.tuple #[u,.int .i64 (q.2:Int),.int .i64 0])/\TmV (Im X w') q.1 u
  | .error er=>e= .returned (.tuple #[.slice none 0 0,.int .i64 0,.int .i64 er]))/\Kp [] w w'
end
end Go.Q
namespace Go.Q
open Go.Shelf Go.RowKit Go.Maps Go.Sort
theorem z6 {P : Program} {f : FuncId} {B : Func} (h : P.funcs[f]? = some { B with name := (P.funcs[f]?.map (·.name)).getD "" }) (b : ((P.funcs[f]?.map (·.name)).getD "" == "runtime.NumGoroutine") = false) : Bears P f B := ⟨_, b, h⟩
def nL':Go.Shelf.Ren:=⟨λ|7=>228|10=>246|n=>n,λ|23=>284|26=>3|3=>3|28=>288|0=>0|27=>287|33=>227|4=>4|n=>n,λ|n=>n⟩
theorem EO':Go.Proofs.SlLaysZI.n7 prog nL':=by constructor<;>first|kernel_rfl|(intro w;kernel_rfl)|exact z6 UD UD
def ki':Go.Shelf.Ren:=⟨λ|6=>227|8=>244|9=>245|11=>251|13=>253|12=>252|23=>267|24=>268|14=>258|15=>259|16=>260|17=>261|18=>262|19=>263|20=>264|21=>265|22=>266|25=>276|26=>277|27=>278|28=>279|29=>280|30=>281|31=>286|n=>n,λ|26=>3|28=>288|24=>136|0=>0|3=>3|37=>254|48=>132|50=>199|4=>4|40=>323|39=>322|45=>236|5=>5|9=>9|51=>334|55=>338|57=>341|58=>222|33=>227|n=>n,λ|n=>n⟩
theorem Bv':Go.Proofs.SlLaysZI.n6 prog ki':=by constructor<;>first|kernel_rfl|(intro w;kernel_rfl)|exact z6 UD UD
def uB':Go.Shelf.Ren:=⟨λ|5=>245|8=>253|7=>252|19=>267|20=>268|10=>258|11=>259|12=>260|13=>261|14=>262|15=>263|16=>264|17=>265|18=>266|30=>276|31=>277|32=>278|33=>279|34=>280|35=>281|40=>286|n=>n,λ|23=>136|25=>3|3=>3|32=>254|22=>136|0=>0|44=>132|46=>199|4=>4|36=>323|35=>322|41=>236|5=>5|9=>9|53=>334|57=>338|63=>341|64=>222|n=>n,λ|n=>n⟩
theorem EP':Go.Proofs.SlLaysM.n5 prog uB':=by constructor<;>first|kernel_rfl|(intro w;kernel_rfl)|exact z6 UD UD
theorem L8(m:Nat):AnyZI.SortsIn prog ki' Fence.wide m:=
 ⟨λblk e b i W j d h=>callsIn_wide.2 (AnyM.slices_Sort_int EP' blk e b i W j d h),
 λp b W=>callsIn_wide.2 (AnyM.slices_Sort_int_none EP' p b W)⟩
theorem L9{w w':World}(h:Below w.heap.size w w'):Kp [] w w':=⟨h.os,h.tape,h.output,h.size,λb d _=>h.block b d⟩
theorem Ma(b:Nat)(w:World):CC 228 #[.map (some b)] w (λe w'=>e= .returned (.func (.func 246) #[] #[.pointer (some ⟨w.heap.size,0,none⟩)])/\w'=w.alloc (.cells #[.map (some b)] 284)):=
 ⟨⟨_,func228,rfl,UO⟩,callsIn_wide.1 (AnyZI.keys_in EO' Fence.wide 5 trivial rfl (some b) w)⟩
theorem Mb{H:Type}{b n:Nat}{D:DataW H}{R:Value ->Option (DataW H×List MemPlace)}{w:World}(h:w.ownsMap prog 3 R b n D)(l:Maps.size D<=maxLen)(d:Maps.size D*8<=140737488355328):
  CC 227 #[.func (.func 246) #[] #[.pointer (some ⟨w.heap.size,0,none⟩)]] (w.alloc (.cells #[.map (some b)] 284)) (λe w'=>∃(v:Value) (j:List Int),e= .returned v/\j.Perm (intKeys D)/\
   w'.ownsRow (w.heap.size+1) 3 1 v j.length ((j.mergeSort (λx y=>decide (x<=y))).map (Value.int .i64))/\Kp [] (w.alloc (.cells #[.map (some b)] 284)) w'):=by
 refine oF func227 ?_;have q:=h.lt;have o:SeqGives Fence.wide 2 prog 246 #[.pointer (some ⟨w.heap.size,0,none⟩)] encZ (λj=>j.Perm (intKeys D)) (Maps.size D) (w.alloc (.cells #[.map (some b)] 284)):=
  AnyZI.keys_gives (ρ:=nL') {EO' with} Fence.wide _ trivial rfl Uo w.heap.size b n D _ Ud Ud (by
   obtain⟨z,k,r,Ft,C,E⟩:=h;exact⟨z,k,(Below.heap_alloc _ _ b q).trans r,Ft,C,E⟩)
 have s:=AnyZI.sorted_in Bv' Fence.wide 5 trivial trivial trivial trivial rfl Uo (L8 _) (enters_of func245 UD rfl) 246 #[.pointer (some ⟨w.heap.size,0,none⟩)] trivial (enters_of func246 UD rfl) _ _ l d _ o
 change CallsIn _ _ prog 227 _ _ _ at s
 refine(callsIn_wide.1 s).mono ?_;rintro e w' ⟨v,j,rfl,F,i,_,r⟩;rw[World.size_alloc]at i;exact⟨v,j,rfl,F,i,L9 r⟩
end Go.Q
