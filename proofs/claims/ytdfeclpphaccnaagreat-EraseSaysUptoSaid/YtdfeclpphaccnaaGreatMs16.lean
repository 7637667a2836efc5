import Derived.Test.YtdfeclpphaccnaaGreatMs15
set_option linter.all false
set_option maxRecDepth 100000
set_option maxHeartbeats 4000000
open Go.Proofs Go.Proofs.Tryz Go.Proofs.YtdfeclpphaccnaaGreat Cd Go.Wx Lv Tm
namespace Go.Q
structure mw where
 book:ak
 ctx:CxR
 term:List Nd
 fuel:Int
def B5(x:mw):PV:=.agg (jK x.book++[aH x.ctx,ah x.term,pI x.fuel])
structure B6(x:mw):Prop where
 b:xi x.book
 c:Lm x.ctx
 q:∀q∈x.ctx,Lm q.1/\Lm q.2
 t:Lm x.term
def nJ(x:mw):Bool:=decide (2500<=rl x.book 2500)||(decide (1000<=jz 1000 x.ctx 0)||(decide (300<x.ctx.length)||(decide (500<x.term.length)||decide (3000<x.fuel))))
theorem Qr{x:mw}(a:B6 x):VC prog 6 [B5 x] (.bool (nJ x)):=by
 have f:=au bdP x.ctx;have h:=au ndP x.term;refine vf 30 [.tmp 2] τok func6 ?_;refine ae (Qq a.b (lid:=2500) Uo) ?_;refine af (λg=>?_) (λg=>?_)
 ·exact⟨_,_,rfl,rfl,bT (by simp[nJ];omega)⟩
 refine ae (B4 a.c a.q (lim:=1000) Uo) ?_;refine af (λb=>?_) (λb=>?_)
 ·exact⟨_,_,rfl,rfl,bT (by simp[nJ];omega)⟩
 refine af (λc=>?_) (λc=>?_)
 ·exact⟨_,_,rfl,rfl,bT (by simp[nJ];omega)⟩
 refine af (λd=>?_) (λd=>?_)
 ·exact⟨_,_,rfl,rfl,bT (by simp[nJ];omega)⟩
 refine af (λe=>?_) (λe=>?_)
 ·exact⟨_,_,rfl,rfl,bT (by simp[nJ];omega)⟩
 ·exact⟨_,_,rfl,rfl,bT (by simp[nJ];omega)⟩
theorem Qs{x:mw}(h:nJ x=false):dG x.book/\Bo x.ctx/\x.term.length<=500:=by
 unfold nJ at h;simp only[Bool.or_eq_false_iff,decide_eq_false_iff_not]at h;obtain⟨a,e,f,g,i⟩:=h;have b:=HY (lim:=2500) Uo x.book.ents ((x.book.orders.length:Int)+(x.book.prims.length:Int));have c:=HZ (lim:=1000) Uo x.ctx 0;unfold rl at a;obtain⟨j,d⟩:=b.2 Uo Uo;exact⟨⟨Uo,Uo,Uo,d⟩,⟨Uo,c.2 Uo Uo⟩,Uo⟩
theorem Qt(g:VC prog 5 [] (.bool true)){x:mw}(m:B6 x)(n:BoI x.book):VC prog 3 [B5 x] (.bool true):=by
 refine vf 52 [.tmp 2] τok func3 ?_;refine ae g ?_;refine bV (Qr m) (λi=>?_) (λi=>?_)
 ·exact aE
 obtain⟨j,d,o⟩:=Qs i;have e:=BZ (t:=x.term) n j (c:=x.ctx) (by have:=d.1;omega) (λq k=>⟨KQ (d.2 q k).1 UO,KQ (d.2 q k).2 UO⟩) Uo x.fuel;have f:=P3 j d (show x.term.length<=1000000 by omega) x.fuel;cases h:lw x.book x.ctx x.term x.fuel with
 |error p=>
  rw[h]at e f;refine ae e ?_;refine ae f ?_;refine vy ?_;refine vy ?_;refine ae (BW (a:=[]) (b:=[]) UO UO) ?_;exact aE
 |ok q=>
  have r:=P4 h;rw[h]at e f;refine ae e ?_;refine ae f ?_;refine vy ?_;refine vy ?_;have l:=BW (a:=q.1) (b:=q.1) Uo Uo;rw[KU rfl]at l;refine ae l ?_;exact aE
end Go.Q
namespace Go.Wx
theorem Qu{w:World}{base e sz n:Nat}{v:Value}{xs:List Value}{g:Nat}(h:w.ownsRow base e sz v n xs)(a:blk v=some g):g<w.heap.size:=by
 rcases h.2 with ⟨rfl,_⟩|⟨b,c,d,rfl,_,f⟩
 ·cases a
 ·obtain rfl:b=g:=JB a
  exact(Array.getElem?_eq_some_iff.1 f.1).1
theorem H0{P:Program}{f:FuncId}{T e sz:Nat}{cs cs' ps:List PV}{r:PV}{l:List (List PV)}(h:∀u:Value,VP P f T (cs++[.raw u]) (cs'++[.raw u]) ps r):
  VG P f (.c (.ptr 0 0)::vals ps) [(0,.st 1 T (cs.map .p++[.row 1])),(1,.rw e sz l)] (.ok (.c (.p r),[(0,.st 1 T (cs'.map .p++[.row 2])),(2,.rw e sz l)])):=by
 refine⟨(h default).1,λw X C ρ vs hl S=>?_⟩;obtain⟨u,M⟩:∃u,ρ 1=u:=⟨_,rfl⟩
 obtain⟨b,us,e0,hb,hO,a5,hc⟩:=S.ent 0 _ rfl;obtain⟨Y,hw,a6,a7,a8⟩:=S.ent 1 _ rfl;have U:X[0]?=some b:=by
  rcases hO with ⟨h,_⟩|⟨i,h,F⟩
  ·cases h
  ·obtain rfl:i=0:=Uo
   exact F
 have a9:Lv ⟨ja' (.c (.ptr 0 0)::vals ps) 0,[(0,.st 1 T (cs.map .p++[.row 1])),(1,.rw e sz l)]⟩ [1]:=λk s=>by
  obtain rfl:k=1:=by simpa using s
  exact⟨_,rfl,rfl⟩
 have Z:∀(A:AS) (x:SE),A.m=[(0,x)] ->∀k y,look A.m k=some y ->k=0/\y=x:=λA x hA k y hy=>by
  rw[hA]at hy;obtain⟨rfl,rfl⟩:=bI hy;exact⟨rfl,rfl⟩
 have a':Rp w [b] C ⟨ja' (.c (.ptr 0 0)::vals ps) 0,[(0,.st 1 T ((cs++[PV.raw u]).map AC.p))]⟩ ⟨ini vs 0,[]⟩ w C ρ:={
  slot:=λt a ha a0=>S.slot t a ha λk s=>by
   obtain⟨x,F,b4⟩:=a0 k s;obtain⟨rfl,rfl⟩:=Z _ _ rfl _ _ F;exact⟨_,rfl,rfl⟩
  ent:=λk x F=>by
   obtain⟨rfl,rfl⟩:=Z _ _ rfl _ _ F;refine⟨b,us,e0,hb,.inr ⟨0,rfl,rfl⟩,by simpa using a5,λi c v d hv=>?_⟩;rw[KB,List.getElem?_append]at d;split at d
   ·rename_i E
    obtain⟨N,B⟩:=hc i c v (by rw[List.getElem?_append,KX E];exact d) hv;refine⟨N,λ_=>B λk s=>?_⟩;rw[JX]at d;cases L:cs[i]? with
    |none=>rw[L]at d;cases d
    |some q=>
     rw[L]at d;obtain rfl:=JB d;cases s
   ·rename_i E
    have I:i-(cs.map AC.p).length=0:=by
     have:=aM d;simp only[List.map_cons,List.map_nil,JV,JU]at this;omega
    rw[I]at d;obtain rfl:AC.p (.raw u)=c:=JB d;obtain⟨N,B⟩:=hc i (.row 1) v (by rw[List.getElem?_append,KY E,I];rfl) hv;have B:v=ρ 1:=B a9;refine⟨N,λ_=>?_⟩;rw[B,M];exact .raw u
  sep:=λj k x y g O W _ s _ _=>by
   obtain⟨rfl,_⟩:=Z _ _ rfl _ _ W;obtain⟨rfl,_⟩:=Z _ _ rfl _ _ s;exact absurd rfl O
  off:=λk x g b o v s _=>by
   obtain⟨rfl,_⟩:=Z _ _ rfl _ _ s;exact S.off 0 _ g b o v rfl rfl
  sub:=S.sub
  c0:=λ_ _ _ h=>h
  cn:=λb o v h=>.inl ⟨o,v,h⟩
  kp:=Kp.refl _ _}
 refine((h u).2 w [b] C ρ vs hl a').mono λex w' ⟨v,C',V,e1,m⟩=>⟨v,C',λk=>if k=2 then u else V k,e1,?_⟩
 obtain⟨K,b0,f0,b1,b2,a3,a4⟩:=m.ent 0 _ rfl;obtain rfl:K=b:=by
  rcases b2 with ⟨h,_⟩|⟨i,h,F⟩
  ·cases h
  ·obtain rfl:i=0:=Uo
   exact(JB F).symm
 have R:blk u≠some K:=by
  rw[<- M];exact S.sep 0 1 _ _ K UO rfl rfl rfl rfl (by rw[e0];rfl)
 have m2:∀(x y:SE) k z,look [(0,x),(2,y)] k=some z ->k=0/\z=x \/k=2/\z=y:=λx y k z n=>by
  match k,n with
  |0,n=>exact .inl ⟨rfl,(JB n).symm⟩
  |1,n=>cases n
  |2,n=>exact .inr ⟨rfl,(JB n).symm⟩
  |k+3,n=>cases n
 have b3:∀g,(ρ 1).ownBlock=some g ->g ∉ [K]:=λg D hm=>by
  obtain rfl:g=K:=by simpa using hm
  rw[M]at D;refine R ?_;rw[<- M,mD hw.1,M];exact D
 exact{
  slot:=λt a ha a0=>by
   obtain⟨rfl,rfl⟩:=bI ha;obtain⟨z,n,hr⟩:=m.slot 0 _ rfl λk s=>by cases s
   exact⟨z,n,hr⟩
  ent:=λk x F=>by
   rcases m2 _ _ _ _ F with ⟨rfl,rfl⟩|⟨rfl,rfl⟩
   ·refine⟨K,b0,f0,b1,.inr ⟨0,rfl,U⟩,by simpa using a3,λi c z d n=>?_⟩
    rw[List.getElem?_append]at d;split at d
    ·rename_i E
     obtain⟨N,B⟩:=a4 i c z (by rw[KB,List.getElem?_append,KX E];exact d) n;rw[JX]at d;cases L:cs'[i]? with
     |none=>rw[L]at d;cases d
     |some q=>
      rw[L]at d;obtain rfl:=JB d;exact⟨N,λ_=>B λk s=>by cases s⟩
    ·rename_i E
     have I:i-(cs'.map AC.p).length=0:=by
      have h9:i-(cs'.map AC.p).length<[AC.row 2].length:=aM d;simp only[JV,JU]at h9;omega
     rw[I]at d;obtain rfl:AC.row 2=c:=JB d;obtain⟨N,B⟩:=a4 i (.p (.raw u)) z (by rw[KB,List.getElem?_append,KY E,I];rfl) n;have B:RV C' (.raw u) z:=B λk s=>by cases s
     refine⟨N,λ_=>?_⟩;cases B;exact rfl
   ·refine⟨Y,⟨?_,?_⟩,a6,a7,λi us x N B=>?_⟩
    ·show w'.ownsRow 0 e sz u l.length Y.flatten
     rw[<- M];exact xA hw.1 m.kp b3
    ·intro g D
     exact hw.2 g (by rw[M];exact D)
    ·obtain⟨a1,a2⟩:=a8 i us x N B
     exact⟨a1,λj y z W n=>⟨(a2 j y z W n).1,(a2 j y z W n).2.mono m.c0⟩⟩
  sep:=λj k x y g O W _ s _ D=>by
   rcases m2 _ _ _ _ W with ⟨rfl,rfl⟩|⟨rfl,rfl⟩<;>rcases m2 _ _ _ _ s with ⟨rfl,rfl⟩|⟨rfl,rfl⟩
   ·exact absurd rfl O
   ·have D:blk (V 0)=some g:=D
    rw[f0]at D;obtain rfl:K=g:=JB D;exact R
   ·intro L
    have L:blk (V 0)=some g:=L;rw[f0]at L;obtain rfl:K=g:=JB L;exact R D
   ·exact absurd rfl O
  off:=λk x g a o z s _ D hC=>by
   rcases m2 _ _ _ _ s with ⟨rfl,rfl⟩|⟨rfl,rfl⟩
   ·exact m.off 0 _ g a o z rfl rfl D hC
   ·have D:blk u=some g:=D
    rcases m.cn a o z hC with ⟨o2,z2,B⟩|B|B
    ·exact S.off 1 _ g a o2 z2 rfl rfl (by rw[M];exact D) B
    ·have:=Qu hw.1 (by rw[M];exact D)
     omega
    ·obtain rfl:a=K:=by simpa using B
     rintro rfl;exact R D
  sub:=m.sub
  c0:=λa o z n=>m.c0 a o z (S.c0 a o z n)
  cn:=λa o z n=>by
   rcases m.cn a o z n with h|h|h
   ·exact .inl h
   ·exact .inr (.inl h)
   ·obtain rfl:a=K:=by simpa using h
    exact .inr (.inr (JQ U))
  kp:=m.kp.weak λx F _=>by
   obtain rfl:x=K:=by simpa using F
   exact JQ U}
end Go.Wx
namespace Go.Q
def SB:ak:=⟨0,[],[⟨1,[⟨2,1,1⟩,⟨3,0,0⟩],[],[],[⟨[],[]⟩,⟨[[⟨9,0,0⟩]],[]⟩],[],[]⟩,⟨1,[⟨2,1,1⟩,⟨3,0,0⟩],[],[],[⟨[],[]⟩,⟨[[⟨9,0,0⟩],[⟨9,1,0⟩]],[]⟩],[],[]⟩],0,[]⟩
theorem rN':VC prog 13 [] (bw SB):=by
 refine vf 25 [.cell 0 26] τok func13 ?_;exact aE
theorem Hk':dG SB:=⟨by simp[SB],by simp[SB],by simp[SB],λx a=>by
 simp[SB]at a;rcases a with rfl|rfl
 all_goals exact⟨Ud,Ud,Ud,by simp[j9],by simp[j9],Ud,λc b=>by
  simp at b;rcases b with rfl|rfl<;>exact⟨by simp[j9],by simp[j9]⟩⟩⟩
theorem aw1:lw SB [] [⟨5,0,0⟩,⟨9,0,0⟩,⟨1,0,0⟩] 50= .ok ([⟨23,0,0⟩,⟨21,0,0⟩],50):=UD
theorem aw2:lw SB [] [⟨9,0,0⟩] 50= .ok ([⟨22,0,0⟩],50):=UD
theorem H1{l:List (List PV)}(hl:l.length<=1000){n:Int}(a:n=0 \/n=1):VG prog 184 [.c (.row 0),.c (.p (.int .u64 n))] [(0,.rw 5 1 l)] (.ok (.c (.row 1),[(1,.rw 5 1 (l++[[.int .u8 n]]))])):=by
 refine cJ 20 [.tmp 4] τok func184 ?_;refine aD<|aD<|aB τok (σ:=Unit) [(0,_),(1,_)] [(0,_)] (λ_=>[]) (λ_=>[]) (λ_=>True) (λ_=>0) () trivial ?_;intro _ _;refine aj<|vn (p:=(128:Int)<=n) ?_;rcases a with rfl|rfl
 all_goals
  refine aj<|⟨_,rfl,bi ?_ (hb:=Uo)⟩;exact .inr ⟨_,λ_=>19,rfl,rfl,⟨rfl,trivial⟩,rfl⟩
theorem Qv{P:Program}{τ:Tau}(a:aS P τ){T e sz bs:Nat}(f:Wx.look τ.slcs T=some (e,sz,bs)){x y:Operand}{k:PV ->Prop}(g:k (.bool true)):oQ P .eql T x y (.c (.p (.raw (.slice none 0 0)))) (.c (.p (.raw (.slice none 0 0)))) k:=⟨⟨.bool true,λC ρ va h w b d=>by
 have b:RV C (.raw (.slice none 0 0)) va:=b;have d:RV C (.raw (.slice none 0 0)) h:=d;cases b;cases d;obtain⟨i,_⟩:=a.slcs T e sz bs f;refine⟨.bool true,.bool _,?_⟩;rw[eqGuard_at_slice];simp only[Sem.run_bind,Sem.run_pure,Result.andThen_ok];exact Lib.run_eql_slice_nil w T e none _ _ 0 0 i,g⟩⟩
theorem yx':VG prog 183 [.c (.p mK')] [] (.ok (.c (.p mK'),[])):=by
 refine cJ 8 [.tmp 2] τok func183 ?_;exact aj<|Qv τok rfl<|.inr ⟨_,id,rfl,rfl,trivial,rfl⟩
theorem putP:VG prog 138 [.c (.p mK'),.c (.p (.sl [[pI 1],[pI 0]]))] [] (.ok (.c (.p (.tup [.sl [[.int .u8 1],[.int .u8 0]],pI 0])),[])):=by
 refine cJ 25 [.tmp 4,.tmp 5] τok func138 ?_;refine aD<|aD<|aT id (λ_=>0) yx' ?_;refine dC 6 1000 5 1 rfl rfl<|aD<|aB τok (σ:=Nat) [(11,_),(12,_)] [] (λi=>[(6,.c (.row 1000)),(13,vI i)]) (λi=>[(1000,.rw 5 1 ([[PV.int .u8 1],[.int .u8 0]].take i))]) (λi=>i<=2) (λi=>2-i) 0 UO ?_;intro i a;refine aj ?_
 match i,a with
 |0,_=>
  refine vy ?_ UO;refine vm (p:=λx:Int=>[pI x]) (l:=[1,0]) 0 rfl ?_;refine vn ?_ UO;refine⟨_,rfl,aT (λk=>1000+k) (λ_=>0) (H1 (l:=[]) UO (.inr rfl))<|vi ?_⟩;exact aw 1 UO (sw 1000 1001)
 |1,_=>
  refine vy ?_ UO;refine vm (p:=λx:Int=>[pI x]) (l:=[1,0]) 1 rfl ?_;refine vn ?_ UO;refine⟨_,rfl,aT (λk=>1000+k) (λ_=>0) (H1 (l:=[[.int .u8 1]]) UO (.inl rfl))<|vi ?_⟩;exact aw 2 UO (sw 1000 1001)
 |2,_=>
  refine vn ?_ UO;exact aj<|.inl ⟨_,_,_,id,rfl,rfl,rfl,rfl,trivial,rfl⟩
abbrev xj(n:Nat):List (Nat×SE):=[(0,.st 1 93 ((cH SB n mK').map .p))]
theorem Qw(n:Nat):VG prog 76 [.c (.ptr 0 0),.c (.p mK'),.c (.p (.sl [[pI 1],[pI 0]]))] (xj n) (.ok (.c (.p (.sl [[.int .u8 1],[.int .u8 0]])),xj n)):=by
 refine cJ 17 [.tmp 6] τok func76 ?_;refine aj<|aT id (λ_=>0) putP ?_;refine ae oG' ?_;exact dD
theorem Jd':dX SB [] [⟨10,1,0⟩]=0:=UD
theorem sm':BoI SB:=⟨⟨by simp[SB],λx a=>by cases a⟩,⟨by simp[SB],λx a=>by
 simp[SB]at a;rcases a with rfl|rfl
 all_goals simp[zF,zE,ka,GL,I64]⟩,⟨by simp[SB],λx a=>by cases a⟩⟩
theorem Qx(n:Nat):VG prog 39 [.c (.ptr 0 0),.c (.p mK'),.c (.p (ah [⟨10,1,0⟩]))] (xj n) (.ok (.c (.p (.sl [[.int .u8 1],[.int .u8 0]])),xj n)):=by
 obtain⟨f,m,o,g,h,b,d⟩:=oC Jd';have a:=qy d;rw[<- b]at a;have a:VC prog 66 [ah [⟨10,1,0⟩]] (.tup [ah [⟨10,1,0⟩],.sl []]):=a;have e:=BP sm' f (aq:=mK') (en:=1) (k:=0) UO UO n;have i:pD SB 1 (0:Nat) n= .ok ([],n):=rfl;rw[i]at e;refine cJ 141 [.tmp 6] τok func39 ?_;refine aj<|ae a ?_;refine aI (l:=[⟨10,1,0⟩]) 0 rfl ?_;refine vn ?_ UO;refine vn ?_ UO;refine vk ?_;refine de (l:=SB.ents) 1 rfl ?_;refine vk ?_;refine aI (l:=[⟨2,1,1⟩,⟨3,0,0⟩]) 0 rfl ?_;refine vn ?_ UO;refine gI (l:=[⟨[],[]⟩,⟨[[⟨9,0,0⟩],[⟨9,1,0⟩]],[]⟩]) 0 rfl ?_;refine vi ?_ (h1:=Ud) (h2:=Ud);refine vn ?_ UO;refine vk ?_;refine ax e ?_;refine aB τok (σ:=Unit) [(0,_),(1,_),(8,_),(9,_),(13,_),(14,_),(15,_),(103,_)] [(0,_),(9,_),(13,_)] (λ_=>[(104,vI 0)]) (λ_=>[]) (λ_=>True) (λ_=>0) () trivial ?_;intro _ _;refine aj<|vn ?_ Ud;refine vi ?_;refine aT id (λ_=>1) (Qw n) ?_;refine bH 0 0 ?_ (λz j=>by cases j);refine aB τok (σ:=Unit) [(0,_),(1,_),(125,_)] [(0,_)] (λ_=>[(126,vI 0)]) (λ_=>[]) (λ_=>True) (λ_=>0) () trivial ?_;intro _ _;refine aj<|vn ?_ Ud;exact dD
def xk(g:Nat)(t:List Nd)(y:PV):List (Nat×SE):=[(100,.st g 29 [.p (ah t)]),(101,.st (g+1) 50 [.p y])]
theorem Qy(n:Nat):VG prog 38 [.c (.ptr 0 0),.c (.ptr 100 0),.c (.ptr 101 0)] ((0,.st 1 93 ((cH SB n mK').map .p))::xk 2 [⟨10,1,0⟩] mK') (.ok (.c (.p (.tup [])),(0,.st 1 93 ((cH SB n mK').map .p))::xk 2 [⟨10,1,0⟩] (.sl [[.int .u8 1],[.int .u8 0]]))):=by
 refine cJ 11 [] τok func38 ?_;refine aj<|aT id (λ_=>1) (Qx n) ?_;refine vn ?_ UO;exact dD
theorem CS':VG prog 20 [.c (.p (bw SB)),.c (.p (pI 50)),.c (.fn 38 [100,101])] (xk 1 [⟨10,1,0⟩] mK') (.ok (.c (.p (.tup [pI 50,pI 0])),xk 1 [⟨10,1,0⟩] (.sl [[.int .u8 1],[.int .u8 0]]))):=by
 have a:min (max (50:Int) 0) 100000=((50:Nat):Int):=Uo
 have b:=Qy 50;refine pf 23 [.cell 6 3,.cell 7 35] τok func20 ?_;refine aj<|⟨⟨rfl,rfl,rfl⟩,rfl,λd=>?_⟩;refine aj<|aT (λk=>sw 0 15 k) (λk=>k-99) b ?_ (he:=by rw[a];repeat first|exact VQ|refine And.intro rfl ?_);refine jn (λk=>k+6) (λ_=>0) wi' ?_;exact dD
theorem Jf':gy SB 0 [⟨10,1,0⟩]=0:=UD
theorem GN':VC prog 15 [bw SB,ah [⟨10,1,0⟩],pI 50] (.tup [.sl [[.int .u8 1],[.int .u8 0]],pI 50,pI 0]):=by
 have h:=tH Hk' (t:=[⟨10,1,0⟩]) UO (below:=0) (by unfold I64;omega);rw[Jf']at h;refine vf 29 [.tmp 6,.tmp 7,.tmp 8] τok func15 ?_;refine ae h ?_;refine vn ?_ UO;refine aT (λk=>sw 100 4 (sw 101 10 k)) (λ_=>0) CS' ?_;exact aE
abbrev dtF:PV:=.raw (.func (.func 68) #[] #[])
theorem Jg':VC prog 124 [.sl [],dtF] (pI (-1)):=by
 refine vf 19 [.tmp 4] τok func124 ?_;refine aB τok (σ:=Unit) [(7,_)] [] (λ_=>[(8,vI 0)]) (λ_=>[]) (λ_=>True) (λ_=>0) () trivial ?_;intro _ _;refine aj<|vn ?_ Ud;exact aE
theorem CT':VC prog 67 [.sl [],dtF] (.bool false):=by
 refine vf 9 [.tmp 4] τok func67 ?_;refine ae Jg' ?_;exact⟨_,_,rfl,rfl,rfl⟩
theorem Qz{f:Int}(e:f=0 \/f=1):VC prog 66 [ah [⟨9,f,0⟩]] (.tup [ah [⟨9,f,0⟩],.sl []]):=by
 have c:∀t:List Nd,dX SB [] t=0 ->VC prog 66 [ah t] (.tup [ah (row (headT (tr t))),bD ((argsT (tr t)).map row)]):=λt h=>by
  obtain⟨_,_,_,_,_,a,b⟩:=oC h;have d:=qy b;rw[<- a]at d;exact d
 rcases e with rfl|rfl
 ·exact c [⟨9,0,0⟩] UD
 ·exact c [⟨9,1,0⟩] UD
theorem xl{n:Nat}{aq:PV}{f:Int}(a:f=0 \/f=1):VP prog 35 93 (cH SB n aq) (cH SB n aq) [ah [⟨9,f,0⟩]] (.tup [.agg [pI f,.sl []],.bool true]):=by
 obtain⟨j,x,d,e,b,c⟩:∃(j:Nat) (x:bY),f=(j:Int)/\SB.ents[j]?=some x/\x.params=[]/\x.indices=[]:=by
  rcases a with rfl|rfl
  ·exact⟨0,_,rfl,rfl,rfl,rfl⟩
  ·exact⟨1,_,rfl,rfl,rfl,rfl⟩
 obtain⟨i,k,m,o,p,q,s⟩:=x;simp only at b c;subst b c;refine aP (r:=.ok (_,_)) 59 [.cell 4 78,.tmp 5] τok func35 ?_;refine aj<|ae (Qz a) ?_;refine aI (l:=[⟨9,f,0⟩]) 0 rfl ?_;refine vn ?_ (λh=>h rfl);refine aI (l:=[⟨9,f,0⟩]) 0 rfl ?_;refine de (l:=SB.ents) j e ?_ (hi:=d);refine vk ?_;refine vi ?_ (h1:=Ud) (h2:=Ud);refine vn ?_ Ud;refine bH 0 0 ?_ (λz g=>by cases g);refine ae CT' ?_;refine aI (l:=[⟨9,f,0⟩]) 0 rfl ?_;exact eP9
abbrev gS(n k:Nat)(l:List (List PV)):List (Nat×SE):=[(0,.st 1 93 ((jK SB++[pI n]).map .p++[.row k])),(k,.rw 78 2 l)]
abbrev nK(f:Int):AV:=.c (.p (.agg [pI f,.sl []]))
theorem QA{f:Int}(a:f=0 \/f=1)(n:Nat)(l:List (List PV)):VG prog 29 [.c (.ptr 0 0),.c (.p (pI f)),.c (.p (pI 0))] (gS n 1 l) (.ok (.c (.p (rb [])),gS n 2 l)):=by
 obtain⟨d,_⟩:=oC Jd';refine H0 (cs:=jK SB++[pI n]) (cs':=jK SB++[pI n]) (ps:=[pI f,pI 0]) (r:=rb []) λu=>?_;have b:=BP sm' d (aq:=.raw u) (en:=f) (k:=0) (by rcases a with rfl|rfl<;>decide) (by rcases a with rfl|rfl<;>decide) n;have e:pD SB f (0:Nat) n= .ok ([],n):=by rcases a with rfl|rfl<;>rfl
 rw[e]at b;exact b
theorem QC{f:Int}(a:f=0 \/f=1)(n:Nat)(l:List (List PV)):VG prog 74 [.c (.ptr 0 0),nK f,.c (.p (pI 0))] (gS n 1 l) (.ok (.c (.p (.bool true)),gS n 2 l)):=by
 obtain⟨j,x,c,d,e,g,b⟩:∃(j:Nat) (x:bY) (c:gZ),f=(j:Int)/\SB.ents[j]?=some x/\x.ctors[0]?=some c/\c.args=[]:=by
  rcases a with rfl|rfl
  ·exact⟨0,_,_,rfl,rfl,rfl,rfl⟩
  ·exact⟨1,_,_,rfl,rfl,rfl,rfl⟩
 obtain⟨h,i⟩:=c;simp only at b;subst b;refine cJ 70 [.tmp 6] τok func74 ?_;refine aj<|aT (λk=>sw 2 1002 k) (λ_=>1) (QA a n l) ?_;refine de (l:=SB.ents) j e ?_ (hi:=d);refine gI 0 g ?_;refine vk ?_;refine aB τok (σ:=Unit) [(0,_),(32,_)] [(0,_),(1002,_)] (λ_=>[(33,vI 0)]) (λ_=>[]) (λ_=>True) (λ_=>0) () trivial ?_;intro _ _;refine aj<|vn ?_ Ud;exact .inl ⟨_,_,_,λk=>sw 2 1002 k,rfl,rfl,rfl,rfl,⟨rfl,rfl,trivial⟩,rfl⟩
abbrev B7(f:Int):PV:=.agg [pI f,.sl []]
def fE(l:List Int):List (List PV):=l.map λf=>[pI f,.sl []]
abbrev tK(f:Int):PV:=.bd 72 (B7 f)
theorem GP':VC prog 133 [.sl [],.sl [],.raw (.func (.func 134) #[] #[])] (.bool true):=by
 refine vf 32 [.tmp 6] τok func133 ?_;refine vn ?_ Ud;refine aB τok (σ:=Unit) [(16,_)] [] (λ_=>[(17,vI 0)]) (λ_=>[]) (λ_=>True) (λ_=>0) () trivial ?_;intro _ _;refine aj<|vn ?_ Ud;exact aE
theorem QE(f g:Int):VC prog 72 [B7 f,B7 g] (.bool (decide (f=g))):=by
 refine vf 17 [.tmp 4] τok func72 ?_;refine af (λe=>?_) (λe=>?_)
 ·refine ae GP' ?_
  exact⟨_,_,rfl,rfl,bT (KU e).symm⟩
 ·exact⟨_,_,rfl,rfl,bT (KH e).symm⟩
def fi(f:Int):Nat ->List Int ->Int
 |_,[]=>-1
 |k,x::r=>if f=x then k else fi f (k+1) r
theorem QI(f:Int)(l:List Int)(hl:l.length<=1000):VC prog 132 [.sl (fE l),tK f] (pI (fi f 0 l)):=by
 have el:(fE l).length=l.length:=KF _;refine vf 19 [.tmp 4] τok func132 ?_;refine aB τok (σ:=Nat) [(0,_),(1,_),(7,_)] [] (λk=>[(8,vI k)]) (λ_=>[]) (λk=>k<=l.length/\fi f k (l.drop k)=fi f 0 l) (λk=>l.length-k) 0 ⟨KV _,rfl⟩ ?_;rintro k ⟨d,a⟩;refine aj<|af (λg=>?_) (λg=>?_)
 ·have g:(k:Int)<((fE l).length:Int):=g
  obtain⟨x,b,c⟩:=ay (l:=l) (k:=k);rw[c]at a;have h:=QE f x;refine vm (p:=λf=>[pI f,.sl []]) k b ?_
  by_cases e:f=x
  ·rw[KU e]at h
   rw[fi,KX e]at a;exact aT id (λ_=>0) h<|⟨_,_,rfl,rfl,KG pI a⟩
  ·rw[KH e]at h
   rw[fi,KY e]at a;refine aT id (λ_=>0) h ?_;refine vi ?_;exact aw (k+1) ⟨show k+1<=_ by omega,a⟩
 ·have g:¬ (k:Int)<((fE l).length:Int):=g
  obtain rfl:k=l.length:=Uo
  rw[List.drop_length]at a;exact⟨_,_,rfl,rfl,KG pI a⟩
theorem xm(f:Int)(l:List Int)(hl:l.length<=1000):VC prog 71 [.sl (fE l),tK f] (.bool (decide (0<=fi f 0 l))):=by
 refine vf 9 [.tmp 4] τok func71 ?_;refine ae (QI f l hl) ?_;exact xJ<|aE
abbrev fV(f:Int):List Nd:=[⟨9,f,0⟩]
abbrev c1:CxR:=[(fV 0,[])]
abbrev ky(n:Nat)(aq:PV):List (Nat×SE):=[(0,.st 1 93 ((cH SB n aq).map .p))]
theorem xn{c:CxR}{t:List Nd}{n:Nat}(aq:PV)(g:dX SB c t=0)(hc:c.length<=100)(h:dz SB (eQ c) (tr t) n= .ok (tr t,n)):VP prog 36 93 (cH SB n aq) (cH SB n aq) [aH c,ah t] (ah t):=by
 obtain⟨i,j,k,d,e,a,f⟩:=oC g;have b:=HB sm' i (aq:=aq) e (by rw[pB];omega) (by rw[pB];exact f) n;rw[h]at b;rw[<- d,<- a]at b;have b:VP prog 36 93 (cH SB n aq) (cH SB n aq) [aH c,ah t] (ah (row (tr t))):=b
 rwa [<- a]at b
theorem H2{f:Int}{n:Nat}{bs:List Bool}(aq:PV)(a:f=0 \/f=1)(c:pD SB f (1:Nat) n= .ok (bs,n)):VP prog 29 93 (cH SB n aq) (cH SB n aq) [pI f,pI 1] (rb bs):=by
 obtain⟨d,_⟩:=oC Jd';have b:=BP sm' d (aq:=aq) (en:=f) (k:=1) (by rcases a with rfl|rfl<;>decide) (by rcases a with rfl|rfl<;>decide) n;rw[c]at b;exact b
theorem B8(t:List Nd)(i:Int):VC prog 136 [ah t,.sl [],pI i] (ah t):=by
 refine vf 31 [.tmp 6] τok func136 ?_;refine vi ?_ (h1:=Ud) (h2:=Ud);refine aB τok (σ:=Unit) [(0,_)] [] (λ_=>[(7,vI (-1))]) (λ_=>[]) (λ_=>True) (λ_=>0) () trivial ?_;intro _ _;refine aj<|vn ?_ UO;exact aE
theorem B9(n:Nat){l l':List (List PV)}(h:∀x∈l,x.length=2)(hl:l.length=l'.length+1)(hc:l.length<=10)(e:(l.take l'.length).drop 0=l'):VD prog 73 .returning [0] [(0,.st 1 59 [.ptr 1 0]),(1,.st 2 93 ((cH SB n (.sl l)).map .p))] [(0,.st 1 59 [.ptr 1 0]),(1,.st 2 93 ((cH SB n (.sl l')).map .p))]:=by
 refine⟨⟨_,func73,rfl,UO⟩,λw X C ρ k=>?_⟩;refine callsD_of_wpS func73 rfl λi m o=>?_;have h:VCode prog 15 (Tryz.f73.body.getD .skip) ⟨ja' (jD [0]) 0,[(0,.st 1 59 [.ptr 1 0]),(1,.st 2 93 ((cH SB n (.sl l)).map .p))]⟩ λe A=>e= .normal/\kI id A [(0,.st 1 59 [.ptr 1 0]),(1,.st 2 93 ((cH SB n (.sl l')).map .p))]:=by
  rw[<- e];refine aj<|vi ?_;refine bH 0 l'.length ?_ h;exact vk<|⟨rfl,rfl,rfl,trivial⟩
 have j:=h.run _ _ _ _ _ ⟨C,ρ,k⟩;unfold EvCode at j;refine wpS_of_wp (Go.wp_mono (j _ (lH Ud rfl (by simp[ini]))) ?_);rintro e v y ⟨z,c,q,D,⟨rfl,r⟩,d⟩;obtain⟨s,g,b⟩:=d.le (iu (f:=id) (B:=⟨[],_⟩) VQ r rfl);exact qm c q rfl o ⟨⟨_,rfl⟩,rfl,s,g,λt a u=>(by cases u),b.ent,b.sep,b.off,b.sub,b.c0,b.cn,b.kp⟩
theorem oO{f:FuncId}{n m:Nat}{ps:List PV}{r:PV}(h:∀u,VP prog f 93 (cH SB n (.raw u)) (cH SB m (.raw u)) ps r)(l:List (List PV)):VG prog f (.c (.ptr 0 0)::vals ps) (gS n 1 l) (.ok (.c (.p r),gS m 2 l)):=H0 (cs:=jK SB++[pI n]) (cs':=jK SB++[pI m]) h
theorem Ca{c:CxR}{f:Int}(a:f=0 \/f=1)(hl:c.length<=100)(hc:(eQ c).map aA=c):VC prog 47 [aH c,.sl [[ah (fV f),ah []]]] (aH (c++[(fV f,[])])):=by
 have h:=pE (cx:=eQ c) (t:=tr (fV f)) (o:=none) (by rw[pB];omega);rw[KB,hc]at h;rcases a with rfl|rfl<;>exact h
theorem plE:VG prog 37 [.c (.ptr 0 0),nK 0] (gS 48 1 (fE [1,0])) (.ok (.c (.p (.bool true)),gS 48 2 (fE [1,0]))):=by
 have a:VC prog 71 [.sl (fE [1,0]),tK 0] (.bool true):=xm 0 [1,0] UO;refine cJ 65 [.tmp 4] τok func37 ?_;refine aj<|kG a ?_;refine vk ?_;exact .inl ⟨_,_,_,λk=>sw 2 1 k,rfl,rfl,rfl,rfl,⟨rfl,rfl,trivial⟩,rfl⟩
theorem plS:VG prog 37 [.c (.ptr 0 0),nK 1] (ky 48 (.sl (fE [1]))) (.ok (.c (.p (.bool true)),ky 48 (.sl (fE [1])))):=by
 have a:VC prog 71 [.sl (fE [1]),tK 1] (.bool true):=xm 1 [1] UO;refine cJ 65 [.tmp 4] τok func37 ?_;refine aj<|kG a ?_;refine vk ?_;exact dD
theorem pc01:VG prog 74 [.c (.ptr 0 0),nK 0,.c (.p (pI 1))] (gS 48 1 (fE [1,0])) (.ok (.c (.p (.bool true)),ky 48 (.sl (fE [1,0])))):=by
 refine cJ 70 [.tmp 6] τok func74 ?_;refine aD<|aD<|aT (λk=>sw 2 1002 k) (λ_=>1) (oO (λu=>H2 (.raw u) (.inl rfl) (bs:=[true]) UD) _) ?_;refine aD<|aD<|de (l:=SB.ents) 0 rfl ?_;refine gI (l:=[⟨[],[]⟩,⟨[fV 0],[]⟩]) 1 rfl ?_;refine vk ?_;refine aB τok (σ:=Nat) [(0,_),(4,_),(7,_),(31,_),(32,_)] [(4,_)] (λi=>[(33,vI i),(8,.c (.p (match i with
  |0=>mK'
  |_=>aH c1)))]) (λi=>gS 48 2000 (fE [1,0])) (λi=>i<=1) (λi=>1-i) 0 UO ?_ (f:=λk=>sw 2000 1002 k)
 intro i a;refine aj ?_
 match i,a with
 |0,_=>
  refine vy ?_ Ud;refine az (l:=[fV 0]) 0 rfl ?_;refine ae (B8 _ _) ?_;refine vm (p:=bP) (l:=[true]) 0 rfl ?_;refine aT (λk=>sw 1 2000 (sw 2 2001 k)) (λ_=>1) (oO (λu=>xn (c:=[]) (t:=fV 0) (.raw u) UD UO UD) _) ?_;refine aT (λk=>sw 1 2001 (sw 2 2002 k)) (λ_=>1) (oO (λu=>xl (.inl rfl)) _) ?_;refine aT (λk=>sw 1 2002 (sw 2 2003 k)) (λ_=>1) plE ?_;refine ae (Ca (c:=[]) (.inl rfl) UO rfl) ?_;refine vi ?_;exact aw 1 UO (λk=>sw 2000 2003 k)
 |1,_=>
  refine vn ?_ Ud;refine uE 0 6 2000 ?_;exact aj<|dD
theorem H3{f:Int}(b:f=0 \/f=1){l:List (List PV)}(h2:∀x∈l,x.length=2)(hl:l.length<=5){n m:Nat}(s:n<=1000)(hc:VC prog 71 [.sl l,tK f] (.bool false))(h1:VG prog 74 [.c (.ptr 0 0),nK f,.c (.p (pI 1))] (gS n 1 (l++[[pI f,.sl []]])) (.ok (.c (.p (.bool true)),ky m (.sl (l++[[pI f,.sl []]]))))):VG prog 37 [.c (.ptr 0 0),nK f] (gS (n+1) 1 l) (.ok (.c (.p (.bool true)),ky m (.sl l))):=by
 obtain⟨j,x,o,a,d,e⟩:∃(j:Nat) (x:bY),f=(j:Int)/\SB.ents[j]?=some x/\x.sort=[⟨2,1,1⟩,⟨3,0,0⟩]/\x.ctors.length=2:=by
  rcases b with rfl|rfl
  ·exact⟨0,_,rfl,rfl,rfl,rfl⟩
  ·exact⟨1,_,rfl,rfl,rfl,rfl⟩
 obtain⟨t,u,v,y,g,z,A⟩:=x;simp only at d e;subst d;have B:(g.map cd).length=2:=(KF _).trans e;refine zQ [_,_,_,_,_] 65 [.tmp 4] τok func37 ?_;refine aj<|aj<|kG hc ?_;refine vk ?_;refine aj<|vn ?_;refine aj<|⟨⟨(n:Int),by rw[IntKind.wrap_i64];omega,aj<|bi ?_ (hb:=Uo)⟩⟩;refine vk<|⟨⟨rfl,rfl,rfl⟩,rfl,λq=>?_⟩;refine aj<|de (l:=SB.ents) j a ?_ (hi:=o);refine vk ?_;refine aI (l:=[⟨2,1,1⟩,⟨3,0,0⟩]) 0 rfl ?_;refine vn ?_ (λh=>h rfl);refine aB τok (σ:=Nat) [(2,_),(3,_),(37,.c (.fr q _ _)),(55,vI (g.map cd).length)] [(2,_),(3,_)] (λi=>[(56,vI i)]) (λi=>match i with
  |0=>gS n 2000 (l++[[pI f,.sl []]])
  |1=>gS n 2000 (l++[[pI f,.sl []]])
  |_=>ky m (.sl (l++[[pI f,.sl []]]))) (λi=>i<=2) (λi=>2-i) 0 UO ?_ (f:=λk=>sw 2000 34 k)
 intro i r;refine aj ?_
 match i,r with
 |0,_=>
  refine vy ?_;refine aT (λk=>sw 1 2000 (sw 2 2001 k)) (λ_=>1) (QC b n _) ?_;refine vi ?_;exact aw 1 UO (λk=>sw 2000 2001 k)
 |1,_=>
  refine vy ?_;refine aT (λk=>sw 1 2000 k) (λ_=>1) h1 ?_;refine vi ?_;exact aw 2 UO
 |2,_=>
  refine vn ?_;refine jn (λk=>sw 1 0 (sw 0 2 k)) (λk=>1-k) (B9 m (l:=l++[[pI f,.sl []]]) (l':=l) (λx a=>?_) Ud Uk Ud) ?_
  ·rcases List.mem_append.1 a with a|a
   ·exact h2 x a
   ·obtain rfl:=List.mem_singleton.1 a
    rfl
  ·exact dD
theorem pl0:VG prog 37 [.c (.ptr 0 0),nK 0] (gS 49 1 (fE [1])) (.ok (.c (.p (.bool true)),ky 48 (.sl (fE [1])))):=H3 (.inl rfl) (l:=fE [1]) (by simp[fE]) UO UO (xm 0 [1] UO) pc01
theorem pc11:VG prog 74 [.c (.ptr 0 0),nK 1,.c (.p (pI 1))] (gS 49 1 (fE [1])) (.ok (.c (.p (.bool true)),ky 48 (.sl (fE [1])))):=by
 refine cJ 70 [.tmp 6] τok func74 ?_;refine aj<|aT (λk=>sw 2 1002 k) (λ_=>1) (oO (λu=>H2 (.raw u) (.inr rfl) (bs:=[true,true]) UD) _) ?_;refine de (l:=SB.ents) 1 rfl ?_;refine gI (l:=[⟨[],[]⟩,⟨[fV 0,fV 1],[]⟩]) 1 rfl ?_;refine vk ?_;refine aB τok (σ:=Nat) [(0,_),(4,_),(7,_),(31,_),(32,_)] [(4,_)] (λi=>[(33,vI i),(8,.c (.p (match i with
  |0=>mK'
  |1=>aH c1
  |_=>aH (c1++[(fV 1,[])]))))]) (λi=>match i with
  |0=>gS 49 2000 (fE [1])
  |_=>ky 48 (.sl (fE [1]))) (λi=>i<=2) (λi=>2-i) 0 UO ?_ (f:=λk=>sw 2000 1002 k)
 intro i a;refine aj ?_
 match i,a with
 |0,_=>
  refine vy ?_ Ud;refine az (l:=[fV 0,fV 1]) 0 rfl ?_;refine ae (B8 _ _) ?_;refine vm (p:=bP) (l:=[true,true]) 0 rfl ?_;refine aT (λk=>sw 1 2000 (sw 2 2001 k)) (λ_=>1) (oO (λu=>xn (c:=[]) (t:=fV 0) (.raw u) UD UO UD) _) ?_;refine aT (λk=>sw 1 2001 (sw 2 2002 k)) (λ_=>1) (oO (λu=>xl (.inl rfl)) _) ?_;refine aT (λk=>sw 1 2002 k) (λ_=>1) pl0 ?_;refine ae (Ca (c:=[]) (.inl rfl) UO rfl) ?_;refine vi ?_;exact aw 1 UO
 |1,_=>
  refine vy ?_ Ud;refine az (l:=[fV 0,fV 1]) 1 rfl ?_;refine ae (B8 _ _) ?_;refine vm (p:=bP) (l:=[true,true]) 1 rfl ?_;refine ax (xn (c:=c1) (t:=fV 1) _ UD UO UD) ?_;refine ax (xl (.inr rfl)) ?_;refine aT id (λ_=>1) plS ?_;refine ae (Ca (c:=c1) (.inr rfl) UO rfl) ?_;refine vi ?_;exact aw 2 UO
 |2,_=>
  refine vn ?_ Ud;exact dD
theorem pl1:VG prog 37 [.c (.ptr 0 0),nK 1] (gS 50 1 []) (.ok (.c (.p (.bool true)),ky 48 (.sl []))):=H3 (.inr rfl) (l:=[]) Ud UO UO (xm 1 [] UO) pc11
def xo(g:Nat)(b:Bool):List (Nat×SE):=[(100,.st g 29 [.p (ah (fV 1))]),(101,.st (g+1) 4 [.p (.bool b)])]
theorem CW':VG prog 34 [.c (.ptr 0 0),.c (.ptr 100 0),.c (.ptr 101 0)] (ky 50 mK'++xo 2 false) (.ok (.c (.p (.tup [])),ky 48 (.sl [])++xo 2 true)):=by
 refine cJ 20 [] τok func34 ?_;refine lF 0 6 1000 78 2 rfl rfl rfl UO<|aj<|aT (λk=>sw 1 1000 (sw 2 1001 k)) (λ_=>1) (oO (λu=>xn (c:=[]) (t:=fV 1) (.raw u) UD UO UD) _) ?_;refine aT (λk=>sw 1 1001 (sw 2 1002 k)) (λ_=>1) (oO (λu=>xl (.inr rfl)) _) ?_;refine aT (λk=>sw 1 1002 k) (λ_=>1) pl1 ?_;exact dD
theorem yA':VG prog 20 [.c (.p (bw SB)),.c (.p (pI 50)),.c (.fn 34 [100,101])] (xo 1 false) (.ok (.c (.p (.tup [pI 48,pI 0])),xo 1 true)):=by
 have a:min (max (50:Int) 0) 100000=((50:Nat):Int):=Uo
 refine pf 23 [.cell 6 3,.cell 7 35] τok func20 ?_;refine aj<|⟨⟨rfl,rfl,rfl⟩,rfl,λb=>?_⟩;refine aj<|aT (λk=>sw 0 15 k) (λk=>k-99) CW' ?_ (he:=by rw[a];repeat first|exact VQ|refine And.intro rfl ?_);refine jn (λk=>k+6) (λ_=>0) wi' ?_;exact dD
theorem Ji':gy SB 0 (fV 1)=0:=UD
theorem CX':VC prog 14 [bw SB,ah (fV 1),pI 50] (.tup [.bool true,pI 48,pI 0]):=by
 have h:=tH Hk' (t:=fV 1) UO (below:=0) (by unfold I64;omega);rw[Ji']at h;refine vf 29 [.tmp 6,.tmp 7,.tmp 8] τok func14 ?_;refine ae h ?_;refine vn ?_ UO;refine aT (λk=>sw 100 4 (sw 101 10 k)) (λ_=>0) yA' ?_;exact aE
theorem CY':VC prog 16 [.sl [[.int .u8 1],[.int .u8 0]],.sl [[.int .u8 1],[.int .u8 0]]] (.bool true):=by
 refine vf 26 [.tmp 4] τok func16 ?_;refine vn ?_ Ud;refine aB τok (σ:=Nat) [(0,_),(1,_)] [] (λi=>[(5,vI i)]) (λ_=>[]) (λi=>i<=2) (λi=>2-i) 0 UO ?_;intro i b;refine aj<|af (λg=>?_) (λ_=>?_)
 ·have g:(i:Int)<(2:Nat):=g
  obtain⟨x,a,_⟩:=ay (l:=[(1:Int),0]) (k:=i) (show i<2 by omega);refine vm (p:=λx:Int=>[.int .u8 x]) (l:=[1,0]) i a ?_;refine vm (p:=λx:Int=>[.int .u8 x]) (l:=[1,0]) i a ?_;refine vn ?_ (λh=>h rfl);refine vk ?_;refine vi ?_;exact aw (i+1) (show i+1<=2 by omega)
 ·exact aE
theorem yB':VC prog 5 [] (.bool true):=by
 have e:=BZ sm' Hk' (c:=[]) UO (λq d=>by cases d) (t:=[⟨5,0,0⟩,⟨9,0,0⟩,⟨1,0,0⟩]) UO 50;have f:=BZ sm' Hk' (c:=[]) UO (λq d=>by cases d) (t:=[⟨9,0,0⟩]) UO 50;have g:=BW (a:=[⟨23,0,0⟩,⟨21,0,0⟩]) (b:=[⟨23,0,0⟩,⟨21,0,0⟩]) UO UO;rw[aw1]at e;rw[aw2]at f;rw[KU rfl]at g;refine vf 90 [.tmp 0] τok func5 ?_;refine ae rN' ?_;refine ae e ?_;refine ae rN' ?_;refine ae f ?_;refine ae rN' ?_;refine ae CX' ?_;refine ae rN' ?_;refine ae GN' ?_;refine vy ?_;refine vy ?_;refine vy ?_;refine vy ?_;refine ae g ?_;refine vy ?_ UO;refine aI (l:=[⟨22,0,0⟩]) 0 rfl ?_;refine vy ?_ UO;refine ae CY' ?_;exact aE
theorem xp{l:List (List Nd)}(h:GL (GL ka) l):rn l:=⟨h.1,λt a=>(h.2 t a).1⟩
theorem BoI.lm{B:ak}(h:BoI B):xi B:=⟨h.1.1,h.2.2.1,h.2.1.1,λx i=>by
 obtain⟨_,a,b,c,d,e,f⟩:=h.2.1.2 x i;exact⟨a.1,e.1,f.1,xp b,xp c,d.1,λq g=>⟨xp (d.2 q g).1,xp (d.2 q g).2⟩⟩⟩
end Go.Q
namespace Go.Q
open Go.ChangeShapes Go.WideShapes Go.ChangeAt Go.RowKit
def CeV(C:Mem)(x:mw)(v:Value):Prop:=
 ∃v1 v2 v3 vc vt,v= .agg #[.int .i64 x.book.vars,v1,v2,.int .i64 x.book.nat,v3,vc,vt,.int .i64 x.fuel]/\SV rOr C x.book.orders v1/\SV rEn C x.book.ents v2/\SV rPr C x.book.prims v3/\SV rBd C x.ctx vc/\SV rNd C x.term vt/\I64 x.fuel
theorem CeV.lm{C:Mem}{x:mw}{v:Value}(h:CeV C x v):BoI x.book/\B6 x/\RV C (B5 x) v:=by
 obtain⟨i,j,k,l,vt,rfl,b,c,hP,d,e,m⟩:=h;have f:BoI x.book:=BoV.boi ⟨i,j,k,rfl,b,c,hP⟩;have a:=br_bd.gl d;exact⟨f,⟨f.lm,a.1,λq g=>⟨(a.2 q g).1.1,(a.2 q g).2.1⟩,(br_nd.gl e).1⟩,pe (bL (.int _ _) (bL (b.rv Em') (bL (c.rv Ep') (bL (.int _ _) (bL (hP.rv En') (bL (d.rv Eq') (bL (e.rv ft') (bL (.int _ _) iz))))))))⟩
theorem QL{w:World}{x:mw}{v:Value}(a:CeV (Im [] w) x v):Calls prog 3 #[v] w (λe w'=>e= .returned (.bool true)/\Kp [] w w'):=by
 obtain⟨b,c,d⟩:=a.lm;exact((Qt yB' c b).run.2 w _ [v] (Im.sub [] w) (bL d iz)).mono λe w' ⟨u,i,f,g,h⟩=>⟨by cases g;exact f,h.kp⟩
section
variable{H:Type}{enc:TypeId×Value ->H}{w:World}{spare:Nat ->Bool}{held:Bool}
theorem QM{n:Nat}{cs:List Value}{y:DataW H×List MemPlace}(hl:cs.length=2)(f:DataW.trod enc prog w 0 spare held n 87 cs=some y)(b:Rows.uptoBulk y.1<=1048576):∃x,rBd.den (Old w) cs x:=by
 obtain⟨g,m,rfl,rfl,_,a,c⟩:=DataW.trod_struct underlying87 f
 match cs,hl,g,a with
 |[l,c1],_,[x0,x1],_=>
  have d:=c 0 _ rfl;have e:=c 1 _ rfl;simp[show prog.cellsOf 29=1 by kernel_rfl]at d e;obtain⟨h,i⟩:=pJ d (iM (x:=x0) Ud b);obtain⟨j,k⟩:=pJ e (iM (x:=x1) Ud b);exact⟨(h,j),_,_,rfl,i,k⟩
theorem CeV.mono{C D:Mem}{x:mw}{v:Value}(h:CeV C x v)(hc:∀b o v,C b o v ->D b o v):CeV D x v:=by
 obtain⟨a,c,d,f,vt,e,g,i,j,k,l,m⟩:=h;exact⟨a,c,d,f,vt,e,g.mono hc,i.mono hc,j.mono hc,k.mono hc,l.mono hc,m⟩
theorem QN{r:Reach}{A:Nat}{v:Value}{d:DataW H}{ps:List MemPlace}(a:Value.okWide prog w r A 31 v)(h:DataW.Trod enc prog w 0 spare held 31 v d ps)(e:Rows.uptoBulk d<=1048576):
  ∃x,CeV (Im [] w) x v:=by
 obtain⟨c,rfl,B⟩:=okWide_struct underlying31 a;obtain⟨k,g⟩:=h;obtain⟨D,m,rfl,E,l,i,f⟩:=DataW.trod_struct underlying31 g;have j:c.size=8:=by rw[B];kernel_rfl
 obtain⟨c⟩:=c
 match c,j,D,i with
 |[X,c1,Y,Z,c4,c5,c6,c7],_,[x0,x1,x2,F],_=>
  have I:d= .agg ([x0,x1,x2,F].map (·.1)):=(Prod.mk.injEq .. ▸E).1;rw[I]at e;have p:=f 0 _ rfl;have q:=f 1 _ rfl;have s:=f 2 _ rfl;have t:=f 3 _ rfl;simp[Value.cells,show prog.cellsOf 26=5 by kernel_rfl,show prog.cellsOf 27=1 by kernel_rfl,show prog.cellsOf 29=1 by kernel_rfl,show prog.cellsOf 3=1 by kernel_rfl]at p q s t;obtain⟨K,w1,w2,w3,u,i0,i1,L,M,N⟩:=Qo rfl p (iM (x:=x0) Ud e);obtain⟨O,P⟩:=pH rBd UO underlying27 UD (λc n y l R S=>QM l R S) q (iM (x:=x1) Ud e);obtain⟨T,U⟩:=pJ s (iM (x:=x2) Ud e);obtain⟨V,z,W⟩:=kx t;simp at u z;obtain⟨rfl,rfl,rfl,rfl,rfl⟩:=u;subst z;exact⟨⟨K,O,T,V⟩,CeV.mono (C:=Old w) ⟨_,_,_,_,_,rfl,L,M,N,P,U,W⟩ λb o v h=>⟨Old.sub w _ _ _ h,Ud⟩⟩
end
end Go.Q
