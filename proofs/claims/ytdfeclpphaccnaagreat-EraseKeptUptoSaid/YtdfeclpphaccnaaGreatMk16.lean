import Derived.Test.YtdfeclpphaccnaaGreatMk15
import Derived.Carry
import Derived.OpenShut
set_option linter.all false
set_option maxRecDepth 100000
set_option maxHeartbeats 4000000
open Go.Proofs Go.Proofs.Tryz Go.Proofs.YtdfeclpphaccnaaGreat Cd Go.Wx Lv Tm
namespace Go.Q
structure rb where
 book:ak
 ctx:CxR
 term:List Nd
 fuel:Int
def Qo(x:rb):PV:=.agg (jE x.book++[aH x.ctx,ah x.term,pI x.fuel])
structure BV(x:rb):Prop where
 b:tH x.book
 c:Lm x.ctx
 q:∀q∈x.ctx,Lm q.1/\Lm q.2
 t:Lm x.term
def nw(x:rb):Bool:=decide (2500<=qX x.book 2500)||(decide (1000<=jr 1000 x.ctx 0)||(decide (300<x.ctx.length)||(decide (500<x.term.length)||decide (3000<x.fuel))))
theorem Qp{x:rb}(a:BV x):VC prog 6 [Qo x] (.bool (nw x)):=by
 have f:=au bdP x.ctx;have h:=au ndP x.term;refine vf 30 [.tmp 2] τok func6 ?_;refine ae (Qn a.b (lid:=2500) Uo) ?_;refine af (λg=>?_) (λg=>?_)
 ·exact⟨_,_,rfl,rfl,bV (by simp[nw];omega)⟩
 refine ae (BU a.c a.q (lim:=1000) Uo) ?_;refine af (λb=>?_) (λb=>?_)
 ·exact⟨_,_,rfl,rfl,bV (by simp[nw];omega)⟩
 refine af (λc=>?_) (λc=>?_)
 ·exact⟨_,_,rfl,rfl,bV (by simp[nw];omega)⟩
 refine af (λd=>?_) (λd=>?_)
 ·exact⟨_,_,rfl,rfl,bV (by simp[nw];omega)⟩
 refine af (λe=>?_) (λe=>?_)
 ·exact⟨_,_,rfl,rfl,bV (by simp[nw];omega)⟩
 ·exact⟨_,_,rfl,rfl,bV (by simp[nw];omega)⟩
theorem Qq{x:rb}(h:nw x=false):dy x.book/\Ot x.ctx/\x.term.length<=500:=by
 unfold nw at h;simp only[Bool.or_eq_false_iff,decide_eq_false_iff_not]at h;obtain⟨a,e,f,g,i⟩:=h;have b:=HK (lim:=2500) Uo x.book.ents ((x.book.orders.length:Int)+(x.book.prims.length:Int));have c:=HL (lim:=1000) Uo x.ctx 0;unfold qX at a;obtain⟨j,d⟩:=b.2 Uo Uo;exact⟨⟨Uo,Uo,Uo,d⟩,⟨Uo,c.2 Uo Uo⟩,Uo⟩
theorem Qr{B:ak}(h:dy B)(a b:Int):(dU B a b).length<=1000000:=by
 unfold dU dx aN;rw[KF,QK,QK];cases d:B.ents[a.toNat]? with
 |none=>exact KV _
 |some x=>
  show ((x.ctors[b.toNat]?).getD default).args.length<=_;cases e:x.ctors[b.toNat]? with
  |none=>exact KV _
  |some c=>exact((h.x x (JQ d)).a c (JQ e)).1.1
theorem Qs{B:ak}(h:dy B){a b fuel:Int}{q:List Bool×Nat}(hr:nv B a b fuel= .ok q):q.1.length<=1000000:=by
 unfold nv at hr;split at hr
 ·cases hr
 rename_i g;split at hr
 ·rw[(Hm (vO (Decidable.not_not.1 g)) _ _ _ _ hr).1]
  exact Qr h a b
 ·cases hr
theorem re{i:Nat}{m:Int}{k:Nat ->Prop}(d:k i)(hm:m=(i:Int):=by rfl)(hi:i<2:=by decide):ro prog 39 .i64 m 0 k:=⟨⟨i,λw b=>by
 subst hm;obtain⟨_,e,_,_,a,c,_⟩:=τok.ones 3 0 rfl
 match i,hi with
 |0,_=>simp[a,c,Instr.indexAt,asIntOf,Instr.sureAddr,underlying39,sizeOf,typeInfo,Addr.add,go_sem]
 |1,_=>simp[a,c,Instr.indexAt,asIntOf,Instr.sureAddr,underlying39,sizeOf,typeInfo,Addr.add,go_sem],d⟩⟩
theorem Qt(f:VC prog 5 [] (.bool true)){B:ak}(j:BoI B)(k:tH B)(a b fuel:Int):VC prog 4 [bw B,.agg [pI a,pI b],pI fuel] (.bool true):=by
 refine vf 54 [.tmp 6] τok func4 ?_;refine ae f ?_;have c:=Qp (x:=⟨B,[],[],fuel⟩) ⟨k,by simp[Lm],Ud,by simp[Lm]⟩;refine bX c (λc=>?_) (λc=>?_)
 ·exact aE
 obtain⟨g,_,_⟩:=Qq c;have d:=PF j g a b fuel;have e:=PM g a b fuel;refine re (i:=0) ?_;refine re (i:=1) ?_;cases h:nv B a b fuel with
 |error n=>
  rw[h]at d e;refine ae d ?_;refine re (i:=0) ?_;refine re (i:=1) ?_;refine ae e ?_;refine vy ?_;refine vy ?_;refine ae (HA (l:=[]) UO) ?_;exact aE
 |ok q=>
  have m:=Qs g h;rw[h]at d e;refine ae d ?_;refine re (i:=0) ?_;refine re (i:=1) ?_;refine ae e ?_;refine vy ?_;refine vy ?_;refine ae (HA m) ?_;exact aE
end Go.Q
namespace Go.Wx
theorem Qu{w:World}{base e sz n:Nat}{v:Value}{xs:List Value}{g:Nat}(h:w.ownsRow base e sz v n xs)(a:blk v=some g):g<w.heap.size:=by
 rcases h.2 with ⟨rfl,_⟩|⟨b,c,d,rfl,_,f⟩
 ·cases a
 ·obtain rfl:b=g:=JB a
  exact(Array.getElem?_eq_some_iff.1 f.1).1
theorem HM{P:Program}{f:FuncId}{T e sz:Nat}{cs cs' ps:List PV}{r:PV}{l:List (List PV)}(h:∀u:Value,VP P f T (cs++[.raw u]) (cs'++[.raw u]) ps r):
  VG P f (.c (.ptr 0 0)::vals ps) [(0,.st 1 T (cs.map .p++[.row 1])),(1,.rw e sz l)] (.ok (.c (.p r),[(0,.st 1 T (cs'.map .p++[.row 2])),(2,.rw e sz l)])):=by
 refine⟨(h default).1,λw X C ρ vs hl S=>?_⟩;obtain⟨u,M⟩:∃u,ρ 1=u:=⟨_,rfl⟩
 obtain⟨b,us,e0,hb,hO,a5,hc⟩:=S.ent 0 _ rfl;obtain⟨Y,hw,a6,a7,a8⟩:=S.ent 1 _ rfl;have U:X[0]?=some b:=by
  rcases hO with ⟨h,_⟩|⟨i,h,F⟩
  ·cases h
  ·obtain rfl:i=0:=Uo
   exact F
 have a9:Lv ⟨iT' (.c (.ptr 0 0)::vals ps) 0,[(0,.st 1 T (cs.map .p++[.row 1])),(1,.rw e sz l)]⟩ [1]:=λk s=>by
  obtain rfl:k=1:=by simpa using s
  exact⟨_,rfl,rfl⟩
 have Z:∀(A:AS) (x:SE),A.m=[(0,x)] ->∀k y,look A.m k=some y ->k=0/\y=x:=λA x hA k y hy=>by
  rw[hA]at hy;obtain⟨rfl,rfl⟩:=bJ hy;exact⟨rfl,rfl⟩
 have a':Rp w [b] C ⟨iT' (.c (.ptr 0 0)::vals ps) 0,[(0,.st 1 T ((cs++[PV.raw u]).map AC.p))]⟩ ⟨ini vs 0,[]⟩ w C ρ:={
  slot:=λt a ha a0=>S.slot t a ha λk s=>by
   obtain⟨x,F,b4⟩:=a0 k s;obtain⟨rfl,rfl⟩:=Z _ _ rfl _ _ F;exact⟨_,rfl,rfl⟩
  ent:=λk x F=>by
   obtain⟨rfl,rfl⟩:=Z _ _ rfl _ _ F;refine⟨b,us,e0,hb,.inr ⟨0,rfl,rfl⟩,by simpa using a5,λi c v d hv=>?_⟩;rw[KB,List.getElem?_append]at d;split at d
   ·rename_i E
    obtain⟨N,B⟩:=hc i c v (by rw[List.getElem?_append,KX E];exact d) hv;refine⟨N,λ_=>B λk s=>?_⟩;rw[JX]at d;cases L:cs[i]? with
    |none=>rw[L]at d;cases d
    |some q=>
     rw[L]at d;obtain rfl:=JB d;cases s
   ·rename_i E
    have I:i-(cs.map AC.p).length=0:=by
     have:=aL d;simp only[List.map_cons,List.map_nil,JV,JU]at this;omega
    rw[I]at d;obtain rfl:AC.p (.raw u)=c:=JB d;obtain⟨N,B⟩:=hc i (.row 1) v (by rw[List.getElem?_append,KY E,I];rfl) hv;have B:v=ρ 1:=B a9;refine⟨N,λ_=>?_⟩;rw[B,M];exact .raw u
  sep:=λj k x y g O W _ s _ _=>by
   obtain⟨rfl,_⟩:=Z _ _ rfl _ _ W;obtain⟨rfl,_⟩:=Z _ _ rfl _ _ s;exact absurd rfl O
  off:=λk x g b o v s _=>by
   obtain⟨rfl,_⟩:=Z _ _ rfl _ _ s;exact S.off 0 _ g b o v rfl rfl
  sub:=S.sub
  c0:=λ_ _ _ h=>h
  cn:=λb o v h=>.inl ⟨o,v,h⟩
  kp:=Kp.refl _ _}
 refine((h u).2 w [b] C ρ vs hl a').mono λex w' ⟨v,C',V,e1,m⟩=>⟨v,C',λk=>if k=2 then u else V k,e1,?_⟩
 obtain⟨K,b0,f0,b1,b2,a3,a4⟩:=m.ent 0 _ rfl;obtain rfl:K=b:=by
  rcases b2 with ⟨h,_⟩|⟨i,h,F⟩
  ·cases h
  ·obtain rfl:i=0:=Uo
   exact(JB F).symm
 have R:blk u≠some K:=by
  rw[<- M];exact S.sep 0 1 _ _ K UO rfl rfl rfl rfl (by rw[e0];rfl)
 have m2:∀(x y:SE) k z,look [(0,x),(2,y)] k=some z ->k=0/\z=x \/k=2/\z=y:=λx y k z n=>by
  match k,n with
  |0,n=>exact .inl ⟨rfl,(JB n).symm⟩
  |1,n=>cases n
  |2,n=>exact .inr ⟨rfl,(JB n).symm⟩
  |k+3,n=>cases n
 have b3:∀g,(ρ 1).ownBlock=some g ->g ∉ [K]:=λg D hm=>by
  obtain rfl:g=K:=by simpa using hm
  rw[M]at D;refine R ?_;rw[<- M,ms hw.1,M];exact D
 exact{
  slot:=λt a ha a0=>by
   obtain⟨rfl,rfl⟩:=bJ ha;obtain⟨z,n,hr⟩:=m.slot 0 _ rfl λk s=>by cases s
   exact⟨z,n,hr⟩
  ent:=λk x F=>by
   rcases m2 _ _ _ _ F with ⟨rfl,rfl⟩|⟨rfl,rfl⟩
   ·refine⟨K,b0,f0,b1,.inr ⟨0,rfl,U⟩,by simpa using a3,λi c z d n=>?_⟩
    rw[List.getElem?_append]at d;split at d
    ·rename_i E
     obtain⟨N,B⟩:=a4 i c z (by rw[KB,List.getElem?_append,KX E];exact d) n;rw[JX]at d;cases L:cs'[i]? with
     |none=>rw[L]at d;cases d
     |some q=>
      rw[L]at d;obtain rfl:=JB d;exact⟨N,λ_=>B λk s=>by cases s⟩
    ·rename_i E
     have I:i-(cs'.map AC.p).length=0:=by
      have h9:i-(cs'.map AC.p).length<[AC.row 2].length:=aL d;simp only[JV,JU]at h9;omega
     rw[I]at d;obtain rfl:AC.row 2=c:=JB d;obtain⟨N,B⟩:=a4 i (.p (.raw u)) z (by rw[KB,List.getElem?_append,KY E,I];rfl) n;have B:RV C' (.raw u) z:=B λk s=>by cases s
     refine⟨N,λ_=>?_⟩;cases B;exact rfl
   ·refine⟨Y,⟨?_,?_⟩,a6,a7,λi us x N B=>?_⟩
    ·show w'.ownsRow 0 e sz u l.length Y.flatten
     rw[<- M];exact xx hw.1 m.kp b3
    ·intro g D
     exact hw.2 g (by rw[M];exact D)
    ·obtain⟨a1,a2⟩:=a8 i us x N B
     exact⟨a1,λj y z W n=>⟨(a2 j y z W n).1,(a2 j y z W n).2.mono m.c0⟩⟩
  sep:=λj k x y g O W _ s _ D=>by
   rcases m2 _ _ _ _ W with ⟨rfl,rfl⟩|⟨rfl,rfl⟩<;>rcases m2 _ _ _ _ s with ⟨rfl,rfl⟩|⟨rfl,rfl⟩
   ·exact absurd rfl O
   ·have D:blk (V 0)=some g:=D
    rw[f0]at D;obtain rfl:K=g:=JB D;exact R
   ·intro L
    have L:blk (V 0)=some g:=L;rw[f0]at L;obtain rfl:K=g:=JB L;exact R D
   ·exact absurd rfl O
  off:=λk x g a o z s _ D hC=>by
   rcases m2 _ _ _ _ s with ⟨rfl,rfl⟩|⟨rfl,rfl⟩
   ·exact m.off 0 _ g a o z rfl rfl D hC
   ·have D:blk u=some g:=D
    rcases m.cn a o z hC with ⟨o2,z2,B⟩|B|B
    ·exact S.off 1 _ g a o2 z2 rfl rfl (by rw[M];exact D) B
    ·have:=Qu hw.1 (by rw[M];exact D)
     omega
    ·obtain rfl:a=K:=by simpa using B
     rintro rfl;exact R D
  sub:=m.sub
  c0:=λa o z n=>m.c0 a o z (S.c0 a o z n)
  cn:=λa o z n=>by
   rcases m.cn a o z n with h|h|h
   ·exact .inl h
   ·exact .inr (.inl h)
   ·obtain rfl:a=K:=by simpa using h
    exact .inr (.inr (JQ U))
  kp:=m.kp.weak λx F _=>by
   obtain rfl:x=K:=by simpa using F
   exact JQ U}
end Go.Wx
namespace Go.Q
def SB:ak:=⟨0,[],[⟨1,[⟨2,1,1⟩,⟨3,0,0⟩],[],[],[⟨[],[]⟩,⟨[[⟨9,0,0⟩]],[]⟩],[],[]⟩,⟨1,[⟨2,1,1⟩,⟨3,0,0⟩],[],[],[⟨[],[]⟩,⟨[[⟨9,0,0⟩],[⟨9,1,0⟩]],[]⟩],[],[]⟩],0,[]⟩
theorem rO':VC prog 13 [] (bw SB):=by
 refine vf 25 [.cell 0 26] τok func13 ?_;exact aE
theorem Hg':dy SB:=⟨by simp[SB],by simp[SB],by simp[SB],λx a=>by
 simp[SB]at a;rcases a with rfl|rfl
 all_goals exact⟨Ud,Ud,Ud,by simp[j3],by simp[j3],Ud,λc b=>by
  simp at b;rcases b with rfl|rfl<;>exact⟨by simp[j3],by simp[j3]⟩⟩⟩
theorem aw1:tG SB [] [⟨5,0,0⟩,⟨9,0,0⟩,⟨1,0,0⟩] 50= .ok ([⟨23,0,0⟩,⟨21,0,0⟩],50):=UD
theorem aw2:tG SB [] [⟨9,0,0⟩] 50= .ok ([⟨22,0,0⟩],50):=UD
theorem HN{l:List (List PV)}(hl:l.length<=1000){n:Int}(a:n=0 \/n=1):VG prog 184 [.c (.row 0),.c (.p (.int .u64 n))] [(0,.rw 5 1 l)] (.ok (.c (.row 1),[(1,.rw 5 1 (l++[[.int .u8 n]]))])):=by
 refine cz 20 [.tmp 4] τok func184 ?_;refine aD<|aD<|aB τok (σ:=Unit) [(0,_),(1,_)] [(0,_)] (λ_=>[]) (λ_=>[]) (λ_=>True) (λ_=>0) () trivial ?_;intro _ _;refine aj<|vn (p:=(128:Int)<=n) ?_;rcases a with rfl|rfl
 all_goals
  refine aj<|⟨_,rfl,be ?_ (hb:=Uo)⟩;exact .inr ⟨_,λ_=>19,rfl,rfl,⟨rfl,trivial⟩,rfl⟩
theorem Qv{P:Program}{τ:Tau}(a:aS P τ){T e sz bs:Nat}(f:Wx.look τ.slcs T=some (e,sz,bs)){x y:Operand}{k:PV ->Prop}(g:k (.bool true)):oH P .eql T x y (.c (.p (.raw (.slice none 0 0)))) (.c (.p (.raw (.slice none 0 0)))) k:=⟨⟨.bool true,λC ρ va h w b d=>by
 have b:RV C (.raw (.slice none 0 0)) va:=b;have d:RV C (.raw (.slice none 0 0)) h:=d;cases b;cases d;obtain⟨i,_⟩:=a.slcs T e sz bs f;refine⟨.bool true,.bool _,?_⟩;rw[eqGuard_at_slice];simp only[Sem.run_bind,Sem.run_pure,Result.andThen_ok];exact Lib.run_eql_slice_nil w T e none _ _ 0 0 i,g⟩⟩
theorem yr':VG prog 183 [.c (.p jt')] [] (.ok (.c (.p jt'),[])):=by
 refine cz 8 [.tmp 2] τok func183 ?_;exact aj<|Qv τok rfl<|.inr ⟨_,id,rfl,rfl,trivial,rfl⟩
theorem putP:VG prog 138 [.c (.p jt'),.c (.p (.sl [[pI 1],[pI 0]]))] [] (.ok (.c (.p (.tup [.sl [[.int .u8 1],[.int .u8 0]],pI 0])),[])):=by
 refine cz 25 [.tmp 4,.tmp 5] τok func138 ?_;refine aD<|aD<|aR id (λ_=>0) yr' ?_;refine dm 6 1000 5 1 rfl rfl<|aD<|aB τok (σ:=Nat) [(11,_),(12,_)] [] (λi=>[(6,.c (.row 1000)),(13,vI i)]) (λi=>[(1000,.rw 5 1 ([[PV.int .u8 1],[.int .u8 0]].take i))]) (λi=>i<=2) (λi=>2-i) 0 UO ?_;intro i a;refine aj ?_
 match i,a with
 |0,_=>
  refine vy ?_ UO;refine vm (p:=λx:Int=>[pI x]) (l:=[1,0]) 0 rfl ?_;refine vn ?_ UO;refine⟨_,rfl,aR (λk=>1000+k) (λ_=>0) (HN (l:=[]) UO (.inr rfl))<|vi ?_⟩;exact aw 1 UO (sw 1000 1001)
 |1,_=>
  refine vy ?_ UO;refine vm (p:=λx:Int=>[pI x]) (l:=[1,0]) 1 rfl ?_;refine vn ?_ UO;refine⟨_,rfl,aR (λk=>1000+k) (λ_=>0) (HN (l:=[[.int .u8 1]]) UO (.inl rfl))<|vi ?_⟩;exact aw 2 UO (sw 1000 1001)
 |2,_=>
  refine vn ?_ UO;exact aj<|.inl ⟨_,_,_,id,rfl,rfl,rfl,rfl,trivial,rfl⟩
abbrev xg(n:Nat):List (Nat×SE):=[(0,.st 1 93 ((cy SB n jt').map .p))]
theorem Qw(n:Nat):VG prog 76 [.c (.ptr 0 0),.c (.p jt'),.c (.p (.sl [[pI 1],[pI 0]]))] (xg n) (.ok (.c (.p (.sl [[.int .u8 1],[.int .u8 0]])),xg n)):=by
 refine cz 17 [.tmp 6] τok func76 ?_;refine aj<|aR id (λ_=>0) putP ?_;refine ae oE' ?_;exact db
theorem Ja':fU SB [] [⟨10,1,0⟩]=0:=UD
theorem sm':BoI SB:=⟨⟨by simp[SB],λx a=>by cases a⟩,⟨by simp[SB],λx a=>by
 simp[SB]at a;rcases a with rfl|rfl
 all_goals simp[zB,zA,lI,GL,I64]⟩,⟨by simp[SB],λx a=>by cases a⟩⟩
theorem Qx(n:Nat):VG prog 39 [.c (.ptr 0 0),.c (.p jt'),.c (.p (ah [⟨10,1,0⟩]))] (xg n) (.ok (.c (.p (.sl [[.int .u8 1],[.int .u8 0]])),xg n)):=by
 obtain⟨f,m,o,g,h,b,d⟩:=qs Ja';have a:=ql d;rw[<- b]at a;have a:VC prog 66 [ah [⟨10,1,0⟩]] (.tup [ah [⟨10,1,0⟩],.sl []]):=a;have e:=wX sm' f (aq:=jt') (en:=1) (k:=0) UO UO n;have i:kZ SB 1 (0:Nat) n= .ok ([],n):=rfl;rw[i]at e;refine cz 141 [.tmp 6] τok func39 ?_;refine aj<|ae a ?_;refine aI (l:=[⟨10,1,0⟩]) 0 rfl ?_;refine vn ?_ UO;refine vn ?_ UO;refine vk ?_;refine cP (l:=SB.ents) 1 rfl ?_;refine vk ?_;refine aI (l:=[⟨2,1,1⟩,⟨3,0,0⟩]) 0 rfl ?_;refine vn ?_ UO;refine gp (l:=[⟨[],[]⟩,⟨[[⟨9,0,0⟩],[⟨9,1,0⟩]],[]⟩]) 0 rfl ?_;refine vi ?_ (h1:=Ud) (h2:=Ud);refine vn ?_ UO;refine vk ?_;refine ax e ?_;refine aB τok (σ:=Unit) [(0,_),(1,_),(8,_),(9,_),(13,_),(14,_),(15,_),(103,_)] [(0,_),(9,_),(13,_)] (λ_=>[(104,vI 0)]) (λ_=>[]) (λ_=>True) (λ_=>0) () trivial ?_;intro _ _;refine aj<|vn ?_ Ud;refine vi ?_;refine aR id (λ_=>1) (Qw n) ?_;refine bH 0 0 ?_ (λz j=>by cases j);refine aB τok (σ:=Unit) [(0,_),(1,_),(125,_)] [(0,_)] (λ_=>[(126,vI 0)]) (λ_=>[]) (λ_=>True) (λ_=>0) () trivial ?_;intro _ _;refine aj<|vn ?_ Ud;exact db
def xh(g:Nat)(t:List Nd)(y:PV):List (Nat×SE):=[(100,.st g 29 [.p (ah t)]),(101,.st (g+1) 50 [.p y])]
theorem Qy(n:Nat):VG prog 38 [.c (.ptr 0 0),.c (.ptr 100 0),.c (.ptr 101 0)] ((0,.st 1 93 ((cy SB n jt').map .p))::xh 2 [⟨10,1,0⟩] jt') (.ok (.c (.p (.tup [])),(0,.st 1 93 ((cy SB n jt').map .p))::xh 2 [⟨10,1,0⟩] (.sl [[.int .u8 1],[.int .u8 0]]))):=by
 refine cz 11 [] τok func38 ?_;refine aj<|aR id (λ_=>1) (Qx n) ?_;refine vn ?_ UO;exact db
theorem CK':VG prog 20 [.c (.p (bw SB)),.c (.p (pI 50)),.c (.fn 38 [100,101])] (xh 1 [⟨10,1,0⟩] jt') (.ok (.c (.p (.tup [pI 50,pI 0])),xh 1 [⟨10,1,0⟩] (.sl [[.int .u8 1],[.int .u8 0]]))):=by
 have a:min (max (50:Int) 0) 100000=((50:Nat):Int):=Uo
 have b:=Qy 50;refine nZ 23 [.cell 6 3,.cell 7 35] τok func20 ?_;refine aj<|⟨⟨rfl,rfl,rfl⟩,rfl,λd=>?_⟩;refine aj<|aR (λk=>sw 0 15 k) (λk=>k-99) b ?_ (he:=by rw[a];repeat first|exact VQ|refine And.intro rfl ?_);refine iu (λk=>k+6) (λ_=>0) rH' ?_;exact db
theorem Jc':iD SB 0 [⟨10,1,0⟩]=0:=UD
theorem GJ':VC prog 15 [bw SB,ah [⟨10,1,0⟩],pI 50] (.tup [.sl [[.int .u8 1],[.int .u8 0]],pI 50,pI 0]):=by
 have h:=tC Hg' (t:=[⟨10,1,0⟩]) UO (below:=0) (by unfold I64;omega);rw[Jc']at h;refine vf 29 [.tmp 6,.tmp 7,.tmp 8] τok func15 ?_;refine ae h ?_;refine vn ?_ UO;refine aR (λk=>sw 100 4 (sw 101 10 k)) (λ_=>0) CK' ?_;exact aE
abbrev dtF:PV:=.raw (.func (.func 68) #[] #[])
theorem Jd':VC prog 124 [.sl [],dtF] (pI (-1)):=by
 refine vf 19 [.tmp 4] τok func124 ?_;refine aB τok (σ:=Unit) [(7,_)] [] (λ_=>[(8,vI 0)]) (λ_=>[]) (λ_=>True) (λ_=>0) () trivial ?_;intro _ _;refine aj<|vn ?_ Ud;exact aE
theorem CL':VC prog 67 [.sl [],dtF] (.bool false):=by
 refine vf 9 [.tmp 4] τok func67 ?_;refine ae Jd' ?_;exact⟨_,_,rfl,rfl,rfl⟩
theorem Qz{f:Int}(e:f=0 \/f=1):VC prog 66 [ah [⟨9,f,0⟩]] (.tup [ah [⟨9,f,0⟩],.sl []]):=by
 have c:∀t:List Nd,fU SB [] t=0 ->VC prog 66 [ah t] (.tup [ah (row (headT (tr t))),bD ((argsT (tr t)).map row)]):=λt h=>by
  obtain⟨_,_,_,_,_,a,b⟩:=qs h;have d:=ql b;rw[<- a]at d;exact d
 rcases e with rfl|rfl
 ·exact c [⟨9,0,0⟩] UD
 ·exact c [⟨9,1,0⟩] UD
theorem xi{n:Nat}{aq:PV}{f:Int}(a:f=0 \/f=1):VP prog 35 93 (cy SB n aq) (cy SB n aq) [ah [⟨9,f,0⟩]] (.tup [.agg [pI f,.sl []],.bool true]):=by
 obtain⟨j,x,d,e,b,c⟩:∃(j:Nat) (x:cf),f=(j:Int)/\SB.ents[j]?=some x/\x.params=[]/\x.indices=[]:=by
  rcases a with rfl|rfl
  ·exact⟨0,_,rfl,rfl,rfl,rfl⟩
  ·exact⟨1,_,rfl,rfl,rfl,rfl⟩
 obtain⟨i,k,m,o,p,q,s⟩:=x;simp only at b c;subst b c;refine aQ (r:=.ok (_,_)) 59 [.cell 4 78,.tmp 5] τok func35 ?_;refine aj<|ae (Qz a) ?_;refine aI (l:=[⟨9,f,0⟩]) 0 rfl ?_;refine vn ?_ (λh=>h rfl);refine aI (l:=[⟨9,f,0⟩]) 0 rfl ?_;refine cP (l:=SB.ents) j e ?_ (hi:=d);refine vk ?_;refine vi ?_ (h1:=Ud) (h2:=Ud);refine vn ?_ Ud;refine bH 0 0 ?_ (λz g=>by cases g);refine ae CL' ?_;refine aI (l:=[⟨9,f,0⟩]) 0 rfl ?_;exact eP9
abbrev gN(n k:Nat)(l:List (List PV)):List (Nat×SE):=[(0,.st 1 93 ((jE SB++[pI n]).map .p++[.row k])),(k,.rw 78 2 l)]
abbrev ny(f:Int):AV:=.c (.p (.agg [pI f,.sl []]))
theorem QA{f:Int}(a:f=0 \/f=1)(n:Nat)(l:List (List PV)):VG prog 29 [.c (.ptr 0 0),.c (.p (pI f)),.c (.p (pI 0))] (gN n 1 l) (.ok (.c (.p (k7 [])),gN n 2 l)):=by
 obtain⟨d,_⟩:=qs Ja';refine HM (cs:=jE SB++[pI n]) (cs':=jE SB++[pI n]) (ps:=[pI f,pI 0]) (r:=k7 []) λu=>?_;have b:=wX sm' d (aq:=.raw u) (en:=f) (k:=0) (by rcases a with rfl|rfl<;>decide) (by rcases a with rfl|rfl<;>decide) n;have e:kZ SB f (0:Nat) n= .ok ([],n):=by rcases a with rfl|rfl<;>rfl
 rw[e]at b;exact b
theorem QC{f:Int}(a:f=0 \/f=1)(n:Nat)(l:List (List PV)):VG prog 74 [.c (.ptr 0 0),ny f,.c (.p (pI 0))] (gN n 1 l) (.ok (.c (.p (.bool true)),gN n 2 l)):=by
 obtain⟨j,x,c,d,e,g,b⟩:∃(j:Nat) (x:cf) (c:gV),f=(j:Int)/\SB.ents[j]?=some x/\x.ctors[0]?=some c/\c.args=[]:=by
  rcases a with rfl|rfl
  ·exact⟨0,_,_,rfl,rfl,rfl,rfl⟩
  ·exact⟨1,_,_,rfl,rfl,rfl,rfl⟩
 obtain⟨h,i⟩:=c;simp only at b;subst b;refine cz 70 [.tmp 6] τok func74 ?_;refine aj<|aR (λk=>sw 2 1002 k) (λ_=>1) (QA a n l) ?_;refine cP (l:=SB.ents) j e ?_ (hi:=d);refine gp 0 g ?_;refine vk ?_;refine aB τok (σ:=Unit) [(0,_),(32,_)] [(0,_),(1002,_)] (λ_=>[(33,vI 0)]) (λ_=>[]) (λ_=>True) (λ_=>0) () trivial ?_;intro _ _;refine aj<|vn ?_ Ud;exact .inl ⟨_,_,_,λk=>sw 2 1002 k,rfl,rfl,rfl,rfl,⟨rfl,rfl,trivial⟩,rfl⟩
abbrev BW(f:Int):PV:=.agg [pI f,.sl []]
def fq(l:List Int):List (List PV):=l.map λf=>[pI f,.sl []]
abbrev tI(f:Int):PV:=.bd 72 (BW f)
theorem GL':VC prog 133 [.sl [],.sl [],.raw (.func (.func 134) #[] #[])] (.bool true):=by
 refine vf 32 [.tmp 6] τok func133 ?_;refine vn ?_ Ud;refine aB τok (σ:=Unit) [(16,_)] [] (λ_=>[(17,vI 0)]) (λ_=>[]) (λ_=>True) (λ_=>0) () trivial ?_;intro _ _;refine aj<|vn ?_ Ud;exact aE
theorem QE(f g:Int):VC prog 72 [BW f,BW g] (.bool (decide (f=g))):=by
 refine vf 17 [.tmp 4] τok func72 ?_;refine af (λe=>?_) (λe=>?_)
 ·refine ae GL' ?_
  exact⟨_,_,rfl,rfl,bV (KU e).symm⟩
 ·exact⟨_,_,rfl,rfl,bV (KH e).symm⟩
def fi(f:Int):Nat ->List Int ->Int
 |_,[]=>-1
 |k,x::r=>if f=x then k else fi f (k+1) r
theorem QI(f:Int)(l:List Int)(hl:l.length<=1000):VC prog 132 [.sl (fq l),tI f] (pI (fi f 0 l)):=by
 have el:(fq l).length=l.length:=KF _;refine vf 19 [.tmp 4] τok func132 ?_;refine aB τok (σ:=Nat) [(0,_),(1,_),(7,_)] [] (λk=>[(8,vI k)]) (λ_=>[]) (λk=>k<=l.length/\fi f k (l.drop k)=fi f 0 l) (λk=>l.length-k) 0 ⟨KV _,rfl⟩ ?_;rintro k ⟨d,a⟩;refine aj<|af (λg=>?_) (λg=>?_)
 ·have g:(k:Int)<((fq l).length:Int):=g
  obtain⟨x,b,c⟩:=ay (l:=l) (k:=k);rw[c]at a;have h:=QE f x;refine vm (p:=λf=>[pI f,.sl []]) k b ?_
  by_cases e:f=x
  ·rw[KU e]at h
   rw[fi,KX e]at a;exact aR id (λ_=>0) h<|⟨_,_,rfl,rfl,KG pI a⟩
  ·rw[KH e]at h
   rw[fi,KY e]at a;refine aR id (λ_=>0) h ?_;refine vi ?_;exact aw (k+1) ⟨show k+1<=_ by omega,a⟩
 ·have g:¬ (k:Int)<((fq l).length:Int):=g
  obtain rfl:k=l.length:=Uo
  rw[List.drop_length]at a;exact⟨_,_,rfl,rfl,KG pI a⟩
theorem xj(f:Int)(l:List Int)(hl:l.length<=1000):VC prog 71 [.sl (fq l),tI f] (.bool (decide (0<=fi f 0 l))):=by
 refine vf 9 [.tmp 4] τok func71 ?_;refine ae (QI f l hl) ?_;exact xF<|aE
abbrev fO(f:Int):List Nd:=[⟨9,f,0⟩]
abbrev c1:CxR:=[(fO 0,[])]
abbrev kr(n:Nat)(aq:PV):List (Nat×SE):=[(0,.st 1 93 ((cy SB n aq).map .p))]
theorem xk{c:CxR}{t:List Nd}{n:Nat}(aq:PV)(g:fU SB c t=0)(hc:c.length<=100)(h:dB SB (fV c) (tr t) n= .ok (tr t,n)):VP prog 36 93 (cy SB n aq) (cy SB n aq) [aH c,ah t] (ah t):=by
 obtain⟨i,j,k,d,e,a,f⟩:=qs g;have b:=Hr sm' i (aq:=aq) e (by rw[tw];omega) (by rw[tw];exact f) n;rw[h]at b;rw[<- d,<- a]at b;have b:VP prog 36 93 (cy SB n aq) (cy SB n aq) [aH c,ah t] (ah (row (tr t))):=b
 rwa [<- a]at b
theorem HO{f:Int}{n:Nat}{bs:List Bool}(aq:PV)(a:f=0 \/f=1)(c:kZ SB f (1:Nat) n= .ok (bs,n)):VP prog 29 93 (cy SB n aq) (cy SB n aq) [pI f,pI 1] (k7 bs):=by
 obtain⟨d,_⟩:=qs Ja';have b:=wX sm' d (aq:=aq) (en:=f) (k:=1) (by rcases a with rfl|rfl<;>decide) (by rcases a with rfl|rfl<;>decide) n;rw[c]at b;exact b
theorem BX(t:List Nd)(i:Int):VC prog 136 [ah t,.sl [],pI i] (ah t):=by
 refine vf 31 [.tmp 6] τok func136 ?_;refine vi ?_ (h1:=Ud) (h2:=Ud);refine aB τok (σ:=Unit) [(0,_)] [] (λ_=>[(7,vI (-1))]) (λ_=>[]) (λ_=>True) (λ_=>0) () trivial ?_;intro _ _;refine aj<|vn ?_ UO;exact aE
theorem BY(n:Nat){l l':List (List PV)}(h:∀x∈l,x.length=2)(hl:l.length=l'.length+1)(hc:l.length<=10)(e:(l.take l'.length).drop 0=l'):VD prog 73 .returning [0] [(0,.st 1 59 [.ptr 1 0]),(1,.st 2 93 ((cy SB n (.sl l)).map .p))] [(0,.st 1 59 [.ptr 1 0]),(1,.st 2 93 ((cy SB n (.sl l')).map .p))]:=by
 refine⟨⟨_,func73,rfl,UO⟩,λw X C ρ k=>?_⟩;refine callsD_of_wpS func73 rfl λi m o=>?_;have h:VCode prog 15 (Tryz.f73.body.getD .skip) ⟨iT' (jw [0]) 0,[(0,.st 1 59 [.ptr 1 0]),(1,.st 2 93 ((cy SB n (.sl l)).map .p))]⟩ λe A=>e= .normal/\kD id A [(0,.st 1 59 [.ptr 1 0]),(1,.st 2 93 ((cy SB n (.sl l')).map .p))]:=by
  rw[<- e];refine aj<|vi ?_;refine bH 0 l'.length ?_ h;exact vk<|⟨rfl,rfl,rfl,trivial⟩
 have j:=h.run _ _ _ _ _ ⟨C,ρ,k⟩;unfold EvCode at j;refine wpS_of_wp (Go.wp_mono (j _ (lB Ud rfl (by simp[ini]))) ?_);rintro e v y ⟨z,c,q,D,⟨rfl,r⟩,d⟩;obtain⟨s,g,b⟩:=d.le (ik (f:=id) (B:=⟨[],_⟩) VQ r rfl);exact pX c q rfl o ⟨⟨_,rfl⟩,rfl,s,g,λt a u=>(by cases u),b.ent,b.sep,b.off,b.sub,b.c0,b.cn,b.kp⟩
theorem oE{f:FuncId}{n m:Nat}{ps:List PV}{r:PV}(h:∀u,VP prog f 93 (cy SB n (.raw u)) (cy SB m (.raw u)) ps r)(l:List (List PV)):VG prog f (.c (.ptr 0 0)::vals ps) (gN n 1 l) (.ok (.c (.p r),gN m 2 l)):=HM (cs:=jE SB++[pI n]) (cs':=jE SB++[pI m]) h
theorem BZ{c:CxR}{f:Int}(a:f=0 \/f=1)(hl:c.length<=100)(hc:(fV c).map aA=c):VC prog 47 [aH c,.sl [[ah (fO f),ah []]]] (aH (c++[(fO f,[])])):=by
 have h:=pq (cx:=fV c) (t:=tr (fO f)) (o:=none) (by rw[tw];omega);rw[KB,hc]at h;rcases a with rfl|rfl<;>exact h
theorem plE:VG prog 37 [.c (.ptr 0 0),ny 0] (gN 48 1 (fq [1,0])) (.ok (.c (.p (.bool true)),gN 48 2 (fq [1,0]))):=by
 have a:VC prog 71 [.sl (fq [1,0]),tI 0] (.bool true):=xj 0 [1,0] UO;refine cz 65 [.tmp 4] τok func37 ?_;refine aj<|kB a ?_;refine vk ?_;exact .inl ⟨_,_,_,λk=>sw 2 1 k,rfl,rfl,rfl,rfl,⟨rfl,rfl,trivial⟩,rfl⟩
theorem plS:VG prog 37 [.c (.ptr 0 0),ny 1] (kr 48 (.sl (fq [1]))) (.ok (.c (.p (.bool true)),kr 48 (.sl (fq [1])))):=by
 have a:VC prog 71 [.sl (fq [1]),tI 1] (.bool true):=xj 1 [1] UO;refine cz 65 [.tmp 4] τok func37 ?_;refine aj<|kB a ?_;refine vk ?_;exact db
theorem pc01:VG prog 74 [.c (.ptr 0 0),ny 0,.c (.p (pI 1))] (gN 48 1 (fq [1,0])) (.ok (.c (.p (.bool true)),kr 48 (.sl (fq [1,0])))):=by
 refine cz 70 [.tmp 6] τok func74 ?_;refine aD<|aD<|aR (λk=>sw 2 1002 k) (λ_=>1) (oE (λu=>HO (.raw u) (.inl rfl) (bs:=[true]) UD) _) ?_;refine aD<|aD<|cP (l:=SB.ents) 0 rfl ?_;refine gp (l:=[⟨[],[]⟩,⟨[fO 0],[]⟩]) 1 rfl ?_;refine vk ?_;refine aB τok (σ:=Nat) [(0,_),(4,_),(7,_),(31,_),(32,_)] [(4,_)] (λi=>[(33,vI i),(8,.c (.p (match i with
  |0=>jt'
  |_=>aH c1)))]) (λi=>gN 48 2000 (fq [1,0])) (λi=>i<=1) (λi=>1-i) 0 UO ?_ (f:=λk=>sw 2000 1002 k)
 intro i a;refine aj ?_
 match i,a with
 |0,_=>
  refine vy ?_ Ud;refine az (l:=[fO 0]) 0 rfl ?_;refine ae (BX _ _) ?_;refine vm (p:=bP) (l:=[true]) 0 rfl ?_;refine aR (λk=>sw 1 2000 (sw 2 2001 k)) (λ_=>1) (oE (λu=>xk (c:=[]) (t:=fO 0) (.raw u) UD UO UD) _) ?_;refine aR (λk=>sw 1 2001 (sw 2 2002 k)) (λ_=>1) (oE (λu=>xi (.inl rfl)) _) ?_;refine aR (λk=>sw 1 2002 (sw 2 2003 k)) (λ_=>1) plE ?_;refine ae (BZ (c:=[]) (.inl rfl) UO rfl) ?_;refine vi ?_;exact aw 1 UO (λk=>sw 2000 2003 k)
 |1,_=>
  refine vn ?_ Ud;refine uC 0 6 2000 ?_;exact aj<|db
theorem HP{f:Int}(b:f=0 \/f=1){l:List (List PV)}(h2:∀x∈l,x.length=2)(hl:l.length<=5){n m:Nat}(s:n<=1000)(hc:VC prog 71 [.sl l,tI f] (.bool false))(h1:VG prog 74 [.c (.ptr 0 0),ny f,.c (.p (pI 1))] (gN n 1 (l++[[pI f,.sl []]])) (.ok (.c (.p (.bool true)),kr m (.sl (l++[[pI f,.sl []]]))))):VG prog 37 [.c (.ptr 0 0),ny f] (gN (n+1) 1 l) (.ok (.c (.p (.bool true)),kr m (.sl l))):=by
 obtain⟨j,x,o,a,d,e⟩:∃(j:Nat) (x:cf),f=(j:Int)/\SB.ents[j]?=some x/\x.sort=[⟨2,1,1⟩,⟨3,0,0⟩]/\x.ctors.length=2:=by
  rcases b with rfl|rfl
  ·exact⟨0,_,rfl,rfl,rfl,rfl⟩
  ·exact⟨1,_,rfl,rfl,rfl,rfl⟩
 obtain⟨t,u,v,y,g,z,A⟩:=x;simp only at d e;subst d;have B:(g.map bM).length=2:=(KF _).trans e;refine zM [_,_,_,_,_] 65 [.tmp 4] τok func37 ?_;refine aj<|aj<|kB hc ?_;refine vk ?_;refine aj<|vn ?_;refine aj<|⟨⟨(n:Int),by rw[IntKind.wrap_i64];omega,aj<|be ?_ (hb:=Uo)⟩⟩;refine vk<|⟨⟨rfl,rfl,rfl⟩,rfl,λq=>?_⟩;refine aj<|cP (l:=SB.ents) j a ?_ (hi:=o);refine vk ?_;refine aI (l:=[⟨2,1,1⟩,⟨3,0,0⟩]) 0 rfl ?_;refine vn ?_ (λh=>h rfl);refine aB τok (σ:=Nat) [(2,_),(3,_),(37,.c (.fr q _ _)),(55,vI (g.map bM).length)] [(2,_),(3,_)] (λi=>[(56,vI i)]) (λi=>match i with
  |0=>gN n 2000 (l++[[pI f,.sl []]])
  |1=>gN n 2000 (l++[[pI f,.sl []]])
  |_=>kr m (.sl (l++[[pI f,.sl []]]))) (λi=>i<=2) (λi=>2-i) 0 UO ?_ (f:=λk=>sw 2000 34 k)
 intro i r;refine aj ?_
 match i,r with
 |0,_=>
  refine vy ?_;refine aR (λk=>sw 1 2000 (sw 2 2001 k)) (λ_=>1) (QC b n _) ?_;refine vi ?_;exact aw 1 UO (λk=>sw 2000 2001 k)
 |1,_=>
  refine vy ?_;refine aR (λk=>sw 1 2000 k) (λ_=>1) h1 ?_;refine vi ?_;exact aw 2 UO
 |2,_=>
  refine vn ?_;refine iu (λk=>sw 1 0 (sw 0 2 k)) (λk=>1-k) (BY m (l:=l++[[pI f,.sl []]]) (l':=l) (λx a=>?_) Ud Uk Ud) ?_
  ·rcases List.mem_append.1 a with a|a
   ·exact h2 x a
   ·obtain rfl:=List.mem_singleton.1 a
    rfl
  ·exact db
theorem pl0:VG prog 37 [.c (.ptr 0 0),ny 0] (gN 49 1 (fq [1])) (.ok (.c (.p (.bool true)),kr 48 (.sl (fq [1])))):=HP (.inl rfl) (l:=fq [1]) (by simp[fq]) UO UO (xj 0 [1] UO) pc01
theorem pc11:VG prog 74 [.c (.ptr 0 0),ny 1,.c (.p (pI 1))] (gN 49 1 (fq [1])) (.ok (.c (.p (.bool true)),kr 48 (.sl (fq [1])))):=by
 refine cz 70 [.tmp 6] τok func74 ?_;refine aj<|aR (λk=>sw 2 1002 k) (λ_=>1) (oE (λu=>HO (.raw u) (.inr rfl) (bs:=[true,true]) UD) _) ?_;refine cP (l:=SB.ents) 1 rfl ?_;refine gp (l:=[⟨[],[]⟩,⟨[fO 0,fO 1],[]⟩]) 1 rfl ?_;refine vk ?_;refine aB τok (σ:=Nat) [(0,_),(4,_),(7,_),(31,_),(32,_)] [(4,_)] (λi=>[(33,vI i),(8,.c (.p (match i with
  |0=>jt'
  |1=>aH c1
  |_=>aH (c1++[(fO 1,[])]))))]) (λi=>match i with
  |0=>gN 49 2000 (fq [1])
  |_=>kr 48 (.sl (fq [1]))) (λi=>i<=2) (λi=>2-i) 0 UO ?_ (f:=λk=>sw 2000 1002 k)
 intro i a;refine aj ?_
 match i,a with
 |0,_=>
  refine vy ?_ Ud;refine az (l:=[fO 0,fO 1]) 0 rfl ?_;refine ae (BX _ _) ?_;refine vm (p:=bP) (l:=[true,true]) 0 rfl ?_;refine aR (λk=>sw 1 2000 (sw 2 2001 k)) (λ_=>1) (oE (λu=>xk (c:=[]) (t:=fO 0) (.raw u) UD UO UD) _) ?_;refine aR (λk=>sw 1 2001 (sw 2 2002 k)) (λ_=>1) (oE (λu=>xi (.inl rfl)) _) ?_;refine aR (λk=>sw 1 2002 k) (λ_=>1) pl0 ?_;refine ae (BZ (c:=[]) (.inl rfl) UO rfl) ?_;refine vi ?_;exact aw 1 UO
 |1,_=>
  refine vy ?_ Ud;refine az (l:=[fO 0,fO 1]) 1 rfl ?_;refine ae (BX _ _) ?_;refine vm (p:=bP) (l:=[true,true]) 1 rfl ?_;refine ax (xk (c:=c1) (t:=fO 1) _ UD UO UD) ?_;refine ax (xi (.inr rfl)) ?_;refine aR id (λ_=>1) plS ?_;refine ae (BZ (c:=c1) (.inr rfl) UO rfl) ?_;refine vi ?_;exact aw 2 UO
 |2,_=>
  refine vn ?_ Ud;exact db
theorem pl1:VG prog 37 [.c (.ptr 0 0),ny 1] (gN 50 1 []) (.ok (.c (.p (.bool true)),kr 48 (.sl []))):=HP (.inr rfl) (l:=[]) Ud UO UO (xj 1 [] UO) pc11
def xl(g:Nat)(b:Bool):List (Nat×SE):=[(100,.st g 29 [.p (ah (fO 1))]),(101,.st (g+1) 4 [.p (.bool b)])]
theorem CO':VG prog 34 [.c (.ptr 0 0),.c (.ptr 100 0),.c (.ptr 101 0)] (kr 50 jt'++xl 2 false) (.ok (.c (.p (.tup [])),kr 48 (.sl [])++xl 2 true)):=by
 refine cz 20 [] τok func34 ?_;refine lz 0 6 1000 78 2 rfl rfl rfl UO<|aj<|aR (λk=>sw 1 1000 (sw 2 1001 k)) (λ_=>1) (oE (λu=>xk (c:=[]) (t:=fO 1) (.raw u) UD UO UD) _) ?_;refine aR (λk=>sw 1 1001 (sw 2 1002 k)) (λ_=>1) (oE (λu=>xi (.inr rfl)) _) ?_;refine aR (λk=>sw 1 1002 k) (λ_=>1) pl1 ?_;exact db
theorem yu':VG prog 20 [.c (.p (bw SB)),.c (.p (pI 50)),.c (.fn 34 [100,101])] (xl 1 false) (.ok (.c (.p (.tup [pI 48,pI 0])),xl 1 true)):=by
 have a:min (max (50:Int) 0) 100000=((50:Nat):Int):=Uo
 refine nZ 23 [.cell 6 3,.cell 7 35] τok func20 ?_;refine aj<|⟨⟨rfl,rfl,rfl⟩,rfl,λb=>?_⟩;refine aj<|aR (λk=>sw 0 15 k) (λk=>k-99) CO' ?_ (he:=by rw[a];repeat first|exact VQ|refine And.intro rfl ?_);refine iu (λk=>k+6) (λ_=>0) rH' ?_;exact db
theorem Jf':iD SB 0 (fO 1)=0:=UD
theorem CP':VC prog 14 [bw SB,ah (fO 1),pI 50] (.tup [.bool true,pI 48,pI 0]):=by
 have h:=tC Hg' (t:=fO 1) UO (below:=0) (by unfold I64;omega);rw[Jf']at h;refine vf 29 [.tmp 6,.tmp 7,.tmp 8] τok func14 ?_;refine ae h ?_;refine vn ?_ UO;refine aR (λk=>sw 100 4 (sw 101 10 k)) (λ_=>0) yu' ?_;exact aE
theorem CQ':VC prog 16 [.sl [[.int .u8 1],[.int .u8 0]],.sl [[.int .u8 1],[.int .u8 0]]] (.bool true):=by
 refine vf 26 [.tmp 4] τok func16 ?_;refine vn ?_ Ud;refine aB τok (σ:=Nat) [(0,_),(1,_)] [] (λi=>[(5,vI i)]) (λ_=>[]) (λi=>i<=2) (λi=>2-i) 0 UO ?_;intro i b;refine aj<|af (λg=>?_) (λ_=>?_)
 ·have g:(i:Int)<(2:Nat):=g
  obtain⟨x,a,_⟩:=ay (l:=[(1:Int),0]) (k:=i) (show i<2 by omega);refine vm (p:=λx:Int=>[.int .u8 x]) (l:=[1,0]) i a ?_;refine vm (p:=λx:Int=>[.int .u8 x]) (l:=[1,0]) i a ?_;refine vn ?_ (λh=>h rfl);refine vk ?_;refine vi ?_;exact aw (i+1) (show i+1<=2 by omega)
 ·exact aE
theorem yv':VC prog 5 [] (.bool true):=by
 have e:=HF sm' Hg' (c:=[]) UO (λq d=>by cases d) (t:=[⟨5,0,0⟩,⟨9,0,0⟩,⟨1,0,0⟩]) UO 50;have f:=HF sm' Hg' (c:=[]) UO (λq d=>by cases d) (t:=[⟨9,0,0⟩]) UO 50;have g:=PN (a:=[⟨23,0,0⟩,⟨21,0,0⟩]) (b:=[⟨23,0,0⟩,⟨21,0,0⟩]) UO UO;rw[aw1]at e;rw[aw2]at f;rw[KU rfl]at g;refine vf 90 [.tmp 0] τok func5 ?_;refine ae rO' ?_;refine ae e ?_;refine ae rO' ?_;refine ae f ?_;refine ae rO' ?_;refine ae CP' ?_;refine ae rO' ?_;refine ae GJ' ?_;refine vy ?_;refine vy ?_;refine vy ?_;refine vy ?_;refine ae g ?_;refine vy ?_ UO;refine aI (l:=[⟨22,0,0⟩]) 0 rfl ?_;refine vy ?_ UO;refine ae CQ' ?_;exact aE
theorem xm{l:List (List Nd)}(h:GL (GL lI) l):ra l:=⟨h.1,λt a=>(h.2 t a).1⟩
theorem BoI.lm{B:ak}(h:BoI B):tH B:=⟨h.1.1,h.2.2.1,h.2.1.1,λx i=>by
 obtain⟨_,a,b,c,d,e,f⟩:=h.2.1.2 x i;exact⟨a.1,e.1,f.1,xm b,xm c,d.1,λq g=>⟨xm (d.2 q g).1,xm (d.2 q g).2⟩⟩⟩
end Go.Q
namespace Go.Q
open Go.ChangeShapes Go.WideShapes Go.ChangeAt Go.RowKit
def CeV(C:Mem)(x:rb)(v:Value):Prop:=
 ∃v1 v2 v3 vc vt,v= .agg #[.int .i64 x.book.vars,v1,v2,.int .i64 x.book.nat,v3,vc,vt,.int .i64 x.fuel]/\SV rOr C x.book.orders v1/\SV rEn C x.book.ents v2/\SV rPr C x.book.prims v3/\SV rBd C x.ctx vc/\SV rNd C x.term vt/\I64 x.fuel
section
variable{H:Type}{enc:TypeId×Value ->H}{w:World}{spare:Nat ->Bool}{held:Bool}
theorem QL{r:Reach}{l:Nat}{v:Value}{d:DataW H}{ps:List MemPlace}(a:Value.okWide prog w r l 26 v)(h:DataW.Trod enc prog w 0 spare held 26 v d ps)(m:Rows.uptoBulk d<=1048576):
  ∃x,BoV (Im [] w) x v:=by
 obtain⟨c,rfl,n⟩:=okWide_struct underlying26 a;obtain⟨g,e⟩:=h;have f:c.size=5:=by rw[n];kernel_rfl
 obtain⟨x,i,j,k,p,y,z,q,s,t⟩:=Ql (cs:=c.toList) (by simpa using f) (by simpa[Value.cells]using e) m;have u:c= #[.int .i64 x.vars,i,j,.int .i64 x.nat,k]:=by
  have:=KG List.toArray p
  simpa using this
 subst u;exact⟨x,BoV.mono (C:=Old w) ⟨i,j,k,rfl,q,s,t⟩ λb o v h=>⟨Old.sub w _ _ _ h,Ud⟩⟩
end
theorem QM{w:World}{B:ak}{v:Value}(c:BoV (Im [] w) B v)(a b fuel:Int):Calls prog 4 #[v,.agg #[.int .i64 a,.int .i64 b],.int .i64 fuel] w (λe w'=>e= .returned (.bool true)/\Kp [] w w'):=by
 have d:BoI B:=BoV.boi c;exact((Qt yv' d d.lm a b fuel).run.2 w _ [v,_,_] (Im.sub [] w) (bQ c.rv (bQ (nW (bQ (.int _ _) (bQ (.int _ _) ir))) (bQ (.int _ _) ir)))).mono λe w' ⟨u,i,f,g,h⟩=>⟨by cases g;exact f,h.kp⟩
section
variable{H:Type}{enc:TypeId×Value ->H}{w:World}{spare:Nat ->Bool}{held:Bool}
theorem QN{r:Reach}{t:Nat}{v:Value}{d:DataW H}{ps:List MemPlace}(f:Value.okWide prog w r t 39 v)(h:DataW.Trod enc prog w 0 spare held 39 v d ps):∃a b,v= .agg #[.int .i64 a,.int .i64 b]:=by
 obtain⟨c,rfl,g⟩:∃c,v= .agg c/\c.size=prog.cellsOf 39:=by
  simp only[Value.okWide,underlying39]at f;obtain⟨c,e,g,_⟩:=f;exact⟨c,e,g⟩
 obtain⟨l,i⟩:=h;obtain⟨u,m,rfl,x,y,j,n⟩:=DataW.trod_array underlying39 i;have k:c.size=2:=by rw[g];kernel_rfl
 obtain⟨c⟩:=c
 match c,k,u,j with
 |[z,c1],_,[x0,x1],_=>
  have o:=n 0 UO;have p:=n 1 UO;simp[Value.cells,show prog.cellsOf 3=1 by kernel_rfl]at o p;obtain⟨a,q,_⟩:=jO o;obtain⟨b,s,_⟩:=jO p;simp at q s;subst q s;exact⟨a,b,rfl⟩
end
end Go.Q
