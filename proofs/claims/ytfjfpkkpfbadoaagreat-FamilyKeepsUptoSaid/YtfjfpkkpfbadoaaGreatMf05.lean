import Derived.Test.YtfjfpkkpfbadoaaGreatMf04
import Derived.Maps.AppendAt
import Derived.Lib.AppendZerosOnto
import Derived.ArgAppend
set_option linter.all false
set_option maxHeartbeats 4000000
noncomputable section
namespace Go.Wx
section
variable{w0:World}{X:List Nat}{C0:Mem}{P:Program}{τ:Tau}{n:Nat}{o:Oper}{A A':AS}{k:Kk}{s s':St}{w w':World}{C:Mem}{ρ:Nat ->Value}
theorem cmp_of{a:AV}{v:Value}(ha:a.isCmp=true)(h:RA C ρ a v):(∃us,v= .agg us) \/∃a n c,v= .slice a n c:=by
 cases a with
 |tp cs=>cases ha
 |agg cs=>
  obtain⟨us,e,_⟩:=h;exact .inl ⟨_,e⟩
 |c x=>
  cases x with
  |p x=>
   have h:RV C x v:=h;cases h with
   |agg cs us d h=>exact .inl ⟨_,rfl⟩
   |nil a c=>exact .inr ⟨_,_,_,rfl⟩
   |sl l g b o c f=>exact .inr ⟨_,_,_,rfl⟩
   |raw v=>
    cases v with
    |slice a n c=>exact .inr ⟨_,_,_,rfl⟩
    |_=>cases ha
   |_=>cases ha
  |_=>cases ha
theorem Jy{a:AV}{v:Value}(ha:a.isAgg=true)(h:RA C ρ a v):∃us,v= .agg us:=by
 cases a with
 |tp cs=>cases ha
 |agg cs=>
  obtain⟨us,e,_⟩:=h;exact⟨_,e⟩
 |c x=>
  cases x with
  |p x=>
   cases x with
   |agg cs=>
    have h:RV C (.agg cs) v:=h;cases h;exact⟨_,rfl⟩
   |_=>cases ha
  |_=>cases ha
theorem Jz{op:BinOp}{T S:Nat}{x y:Operand}{a b:AV}(M:o.op= .binOp op T x y S)(ha:ao A x=some a)(B:Lv A a.refs)(hb:ao A y=some b)(D:Lv A b.refs)(h:yl P τ n o k op T x y a b):cv w0 X C0 P τ n o A k:=by
 have E:x∈av' o.op:=by rw[M];simp[av']
 have F:y∈av' o.op:=by rw[M];simp[av']
 unfold yl at h;split at h
 ·rename_i j m V m'
  split at h
  ·exact h.elim
  ·rename_i l
   have d:∀(r:Value) (q:PV),out n o k (.c (.p q)) ->(∀C,RV C q r) ->(∀(w:World) (g:Value ->World ->Prop),g r w ->fX P τ op T x y (.int j m) (.int V m') w g) ->cv w0 X C0 P τ n o A k:=λr q h N L=>by
    refine dz h λA' s w C ρ t z=>?_;obtain⟨_,v,W,H⟩:=z.op t E ha B;obtain⟨_,u,Y,i⟩:=z.op t F hb D;have H:RV C (.int j m) v:=H;have i:RV C (.int V m') u:=i;cases H;cases i;refine⟨r,λ_=>N C,λK kp O=>?_⟩;unfold aW;simp only[M];exact be W (be Y (L w _ O))
   split at h
   ·replace h:=h.go
    obtain⟨r,I,h⟩:=h;exact d (.int j r) _ h (λC=>RV.int _ _) λw g e=>by simp only[fX,l];exact pz r I e
   ·replace h:=h.go
    obtain⟨r,I,h⟩:=h;exact d (.int j r) _ h (λC=>RV.int _ _) λw g e=>by simp only[fX,l];exact pz r I e
   ·replace h:=h.go
    obtain⟨r,I,h⟩:=h;exact d (.int j r) _ h (λC=>RV.int _ _) λw g e=>by simp only[fX,l];exact pz r I e
   ·replace h:=h.go
    exact d _ _ h (λC=>RV.bool _) λw g e=>by simp only[fX,l];exact e
   ·replace h:=h.go
    exact d _ _ h (λC=>RV.bool _) λw g e=>by simp only[fX,l];exact e
   ·replace h:=h.go
    exact d _ _ h (λC=>RV.bool _) λw g e=>by simp only[fX,l];exact e
   ·replace h:=h.go
    exact d _ _ h (λC=>RV.bool _) λw g e=>by simp only[fX,l];exact e
   ·replace h:=h.go
    exact d _ _ h (λC=>RV.bool _) λw g e=>by simp only[fX,l];exact e
   ·replace h:=h.go
    exact d _ _ h (λC=>RV.bool _) λw g e=>by simp only[fX,l];exact e
   ·split at h
    ·replace h:=h.go
     obtain⟨N,L,Z,h⟩:=h;cases V<;>first|exact absurd l Bool.false_ne_true|exact d _ _ h (λC=>RV.int _ _) λw g e=>by simp only[fX,mC'];exact It N L Z e
    ·exact h.elim
   ·split at h
    ·replace h:=h.go
     obtain⟨N,L,Z,h⟩:=h;cases V<;>first|exact absurd l Bool.false_ne_true|exact d _ _ h (λC=>RV.int _ _) λw g e=>by simp only[fX,mC'];exact Iu N Z e
    ·exact h.elim
   ·exact h.elim
 ·rename_i m m'
  have d:∀(q:Bool),out n o k (.c (.p (.bool q))) ->(∀(w:World) (g:Value ->World ->Prop),g (.bool q) w ->fX P τ op T x y (.bool m) (.bool m') w g) ->cv w0 X C0 P τ n o A k:=λq h L=>by
   refine dz h λA' s w C ρ t z=>?_;obtain⟨_,v,W,H⟩:=z.op t E ha B;obtain⟨_,u,Y,i⟩:=z.op t F hb D;have H:RV C (.bool m) v:=H;have i:RV C (.bool m') u:=i;cases H;cases i;refine⟨.bool q,λ_=>RV.bool _,λK kp O=>?_⟩;unfold aW;simp only[M];exact be W (be Y (L w _ O))
  split at h
  ·rename_i hT
   split at h
   ·exact d _ h λw g e=>by simp only[fX,hT];exact e
   ·exact d _ h λw g e=>by simp only[fX,hT];exact e
   ·exact h.elim
  ·exact h.elim
 ·split at h
  ·rename_i a0 a3
   replace h:=h.go
   obtain⟨r,Q,h⟩:=h;refine dz h λA' s w C ρ t z=>?_;obtain⟨_,va,a4,R⟩:=z.op t E ha B;obtain⟨_,vb,a5,U⟩:=z.op t F hb D;obtain⟨v,a6,I⟩:=Q C ρ va vb w R U;refine⟨v,λ_=>a6,λK kp O=>?_⟩;rcases cmp_of a0 R with ⟨us,rfl⟩|⟨a1,n1,c1,rfl⟩<;>rcases cmp_of a3 U with ⟨a7,rfl⟩|⟨a2,n2,c2,rfl⟩
   all_goals
    unfold aW;simp only[M];refine be a4 (be a5 ?_);simp only[fX];exact run I O
  ·exact h.elim
theorem JA{e:List (Nat×Value)}{x:Operand}{v:Value}{k:List Value ->Prop}(h:ev e x=some v)(a:k [v]):wvs e [x] k:=be h a
theorem rz{e:List (Nat×Value)}{x y:Operand}{v u:Value}{k:List Value ->Prop}(h:ev e x=some v)(h2:ev e y=some u)(a:k [v,u]):wvs e [x,y] k:=be h (be h2 a)
theorem RV.slv{l:List (List PV)}{v:Value}(h:RV C (.sl l) v):∃a c,v= .slice a l.length c:=by
 cases h with
 |nil a c=>exact⟨a,c,rfl⟩
 |sl l d b o c f e g i j=>exact⟨_,c,rfl⟩
theorem JC{T:Nat}{x:Operand}{a:AV}{c:Call}(y:o.op= .call c)(hc:c.callee= .builtin .len)(E:c.args.toList=[x])(F:c.argTypes.toList=[T])(ha:ao A x=some a)(hl:Lv A a.refs)(h:yp τ n o A k T a):cv w0 X C0 P τ n o A k:=by
 have d:x∈av' o.op:=by rw[y];simp[av',E]
 unfold yp at h;split at h
 ·exact h.elim
 rename_i q H;have z:∀(m:Nat),out n o k (.c (.p (.int .i64 m))) ->(∀A' s w C ρ,Agr (ja' o.op) A A' (av' o.op) ->Rp w0 X C0 A' s w C ρ ->∃i b,ev s.e x=some (.slice i m b)) ->cv w0 X C0 P τ n o A k:=λm h r=>by
  refine dz h λA' s w C ρ t u=>?_;obtain⟨i,b,r⟩:=r A' s w C ρ t u;refine⟨.int .i64 m,λ_=>RV.int _ _,λK M I=>?_⟩;unfold aW;simp only[y,hc,E,F];refine JA r ?_;simp only[H];exact I
 split at h
 ·rename_i l
  refine z _ h λA' s w C ρ t u=>?_;obtain⟨_,v,r,g⟩:=u.op t d ha hl;obtain⟨i,b,rfl⟩:=RV.slv (show RV C (.sl l) v from g);exact⟨i,b,r⟩
 ·rename_i i m b
  refine z _ h λA' s w C ρ t u=>?_;obtain⟨_,v,r,g⟩:=u.op t d ha hl;have g:RV C (.raw (.slice i m b)) v:=g;cases g;exact⟨i,b,r⟩
 ·rename_i j
  split at h
  ·rename_i e N l B
   refine z _ h λA' s w C ρ t u=>?_;obtain⟨_,v,r,g⟩:=u.op t d ha hl;have g:v=ρ j:=g;subst g;obtain⟨L,D,_⟩:=u.ent j _ (t.at (pQ y hc) d ha (by simp[AV.refs,AC.refs]) B);obtain⟨i,b,e,_⟩:=pB D.1;exact⟨i,b,by rw[r,e]⟩
  ·rename_i l B
   refine z _ h λA' s w C ρ t u=>?_;obtain⟨_,v,r,g⟩:=u.op t d ha hl;have g:v=ρ j:=g;subst g;have:=u.ent j _ (t.at (pQ y hc) d ha (by simp[AV.refs,AC.refs]) B);obtain⟨i,b,e⟩:=RV.slv (show RV C (.sl l) (ρ j)from this);exact⟨i,b,by rw[r,e]⟩
  ·exact h.elim
 ·exact h.elim
def jS(ρ:Nat ->Value)(d:Nat)(v:Value):Nat ->Value:=λk=>if k=d then v else ρ k
theorem gc(ρ:Nat ->Value)(d:Nat)(v:Value):jS ρ d v d=v:=KX rfl
theorem rA{ρ:Nat ->Value}{d k:Nat}{v:Value}(h:k≠d):jS ρ d v k=ρ k:=KY h
theorem bU{α:Type}{d k:Nat}{x y:α}(h:look [(d,x)] k=some y):k=d/\y=x:=by
 rw[cG]at h;cases a:Nat.beq d k with
 |true=>rw[a]at h;exact⟨(QJ a).symm,(JB h).symm⟩
 |false=>rw[a]at h;cases h
theorem mA{α:Type}(d:Nat)(x:α)(l:List (Nat×α)):look ((d,x)::l) d=some x:=by
 rw[cG];have:Nat.beq d d=true:=Nat.beq_refl d;rw[this]
theorem Rp.fresh(h:Rp w0 X C0 A s w C ρ){d:Nat}(I:NoRef d A){v:Value}{x:SE}{wr:List (Nat×AV)}(c:Kp [] w w')(hb:∀g,blk v=some g ->w.heap.size<=g)(he:RE w0.heap.size X (A.upd wr [(d,x)]) C (jS ρ d v) w' d x)
  (K:∀t a,look wr t=some a ->∃u,get s'.e t=some u/\RA C (jS ρ d v) a u) (r:∀t,look wr t=none ->get s'.e t=get s.e t):Rp w0 X C0 (A.upd wr [(d,x)]) s' w' C (jS ρ d v):=by
 refine h.step [d] (λk c=>rA (by simpa using c)) (λk c=>(List.mem_singleton.1 c).symm▸I) (λk c=>⟨x,(List.mem_singleton.1 c).symm▸mA d x []⟩) (λk y i _=>.inl (by simp[(bU i).1])) c (λz L=>by cases L) (λ_ _ _ h=>h) (h.sub.tr c) (λb o v B=>.inl ⟨_,_,B⟩)
  (λk y i=>?_) (λk y g i O H=>?_) (λt a D _=>K t a D) r
 ·obtain⟨rfl,rfl⟩:=bU i
  exact he
 ·obtain⟨rfl,rfl⟩:=bU i
  rw[gc]at H;have M:=hb g H;refine⟨λj z l N E p=>?_,λb o u B e=>?_⟩
  ·rcases look_app_some N with F|⟨_,F⟩
   ·exact l (bU F).1
   ·rw[rA l]at p
    have:=(h.blk_lt F E p).1;omega
  ·have:=(h.sub b o u B).lt
   omega
end
def PV.nz(x:PV):PV:=match x with
 | .raw (.slice none 0 0)=>.sl []
 |x=>x
theorem RV.nz{C:Mem}{x:PV}{v:Value}(h:RV C x v):RV C x.nz v:=by
 unfold PV.nz;split
 ·cases h
  exact .nil none 0
 ·exact h
def pU(A:AS):AC ->Option PV
 | .p x=>some x.nz
 | .row k=>match look A.m k with
  |some (.rw _ _ l)=>some (.sl l)
  |some (.fz l)=>some (.sl l)
  |_=>none
 |_=>none
def uE(A:AS)(l:List AC):Option (List PV):=List.rec (motive:=λ_=>Option (List PV)) (some []) (λx _ ih=>match pU A x with
 |some y=>match ih with
  |some r=>some (y::r)
  |none=>none
 |none=>none) l
def oS(A:AS):AV ->Option PV
 | .c x=>pU A x
 | .agg cs=>match uE A cs with
  |some l=>some (.agg l)
  |none=>none
 | .tp _=>none
def bM(A:AS)(ks:List Nat):List (Nat×SE):=List.rec (motive:=λ_=>List (Nat×SE)) [] (λk _ ih=>match look A.m k with
 |some (.rw _ _ l)=>(k,.fz l)::ih
 |_=>ih) ks
theorem DL(A:AS)(k:Nat)(r:List Nat):bM A (k::r)=match look A.m k with
 |some (.rw _ _ l)=>(k,.fz l)::bM A r
 |_=>bM A r:=rfl
theorem lD{A:AS}:∀{ks:List Nat} {k:Nat} {x:SE},look (bM A ks) k=some x ->k∈ks/\∃e sz l,look A.m k=some (.rw e sz l)/\x= .fz l
 |[],k,x,h=>by cases h
 |j::r,k,x,h=>by
  rw[DL]at h;split at h
  ·rename_i e sz l d
   rw[cG]at h;cases a:Nat.beq j k with
   |true=>
    rw[a]at h;obtain rfl:=QJ a;exact⟨Ud,e,sz,l,d,(JB h).symm⟩
   |false=>
    rw[a]at h;obtain⟨b,c⟩:=lD (ks:=r) h;exact⟨by simp[b],c⟩
  ·obtain⟨b,c⟩:=lD (ks:=r) h
   exact⟨by simp[b],c⟩
theorem yq{A:AS}:∀{ks:List Nat} {k e sz:Nat} {l:List (List PV)},k∈ks ->look A.m k=some (.rw e sz l) ->look (bM A ks) k=some (.fz l)
 |[],k,e,sz,l,h,_=>by cases h
 |j::r,k,e,sz,l,h,c=>by
  rw[DL]
  by_cases a:j=k
  ·subst a
   simp only[c];exact mA _ _ _
  ·have hr:k∈r:=by
    rcases List.mem_cons.1 h with h|h
    ·exact absurd h.symm a
    ·exact h
   have d:=yq (ks:=r) hr c;have b:Nat.beq j k=false:=by
    cases b:Nat.beq j k with
    |true=>exact absurd (QJ b) a
    |false=>rfl
   split
   ·rw[cG,b]
    exact d
   ·exact d
section
variable{w0:World}{X:List Nat}{C0:Mem}{P:Program}{τ:Tau}{n:Nat}{o:Oper}{A A':AS}{k:Kk}{s s':St}{w w':World}{C C':Mem}{ρ:Nat ->Value}
theorem JE{lo e sz:Nat}{l:List (List PV)}{v:Value}{css:List (List Value)}(H:w.ownsRow lo e sz v l.length css.flatten)(hsz:∀x∈l,x.length=sz)(hl:css.length=l.length)
  (hc:∀(i:Nat) (us:List Value) x,css[i]?=some us ->l[i]?=some x ->us.length=sz/\∀(j:Nat) y u,x[j]?=some y ->us[j]?=some u ->u.oneCell'=true/\RV C y u) (I:∀g b u,blk v=some g ->Cl w.heap g b u ->C g b u):RV C (.sl l) v:=by
 have d:∀us∈css,us.length=sz:=λus z=>by
  obtain⟨q,F⟩:=JH z;have K:=aL F;exact(hc q us _ F (gE)).1
 obtain⟨a,p,rfl,_,r,L⟩:=pB H;rcases L with M|⟨g,rfl,_,_,B⟩
 ·obtain rfl:l=[]:=List.length_eq_zero_iff.1 M
  exact .nil a p
 ·refine .sl l sz g 0 p (λi j=>(css.getD i []).getD j undef) hsz r (λi j x y t D=>?_) λi j x y t D=>?_
  all_goals
   have Q:=aL t;have c:css[i]?=some css[i]:=gE;obtain⟨R,N⟩:=hc i _ x c t;have S:=aL D;have O:=hsz x (JQ t);have E:(css[i])[j]?=some (css[i])[j]:=gE;have e:(css.getD i []).getD j undef=(css[i])[j]:=by simp[QK,c,E]
   rw[e]
  ·rw[KW]
   exact I g _ _ rfl (B _ _ (pD css d i j _ _ c E))
  ·exact(N j y _ D E).2
theorem Rp.frz(h:Rp w0 X C0 A' s w C ρ)(ks:List Nat)(I:∀k∈ks,look A'.m k=look A.m k):∃C',Rp w0 X C0 (A'.upd [] (bM A ks)) s w C' ρ/\(∀b o v,C b o v ->C' b o v)/\∀k∈ks,∀l,((∃e sz,look A.m k=some (.rw e sz l)) \/look A.m k=some (.fz l)) ->RV C' (.sl l) (ρ k):=by
 let C':Mem:=λb o v=>C b o v \/(Cl w.heap b o v/\∃k∈ks,∃e sz l,look A.m k=some (.rw e sz l)/\blk (ρ k)=some b)
 have K:∀b o v,C b o v ->C' b o v:=λ_ _ _ h=>.inl h;have B:∀k∈ks,∀e sz l,look A.m k=some (.rw e sz l) ->RV C' (.sl l) (ρ k):=λk c e sz l r=>by
  obtain⟨M,D,E,h3,N⟩:=h.ent k _ (by rw[I k c];exact r);exact JE D.1 E h3 (λi O x Q d=>⟨(N i O x Q d).1,λj y u Y Z=>⟨((N i O x Q d).2 j y u Y Z).1,((N i O x Q d).2 j y u Y Z).2.mono K⟩⟩) λg b u L R=>.inr ⟨R,k,c,e,sz,l,r,L⟩
 refine⟨C',?_,K,λk c l F=>?_⟩
 ·refine h.step (wr:=[]) [] (λ_ _=>rfl) (λk c=>by cases c) (λk c=>by cases c) (λk x d a0=>?_) (Kp.refl [] w) (λz hz=>by cases hz) K (λb o v p=>?_) (λb o v p=>?_) (λk x d=>?_) (λk x g d r=>?_) (λt a ht=>by cases ht) (λ_ _=>rfl)
  ·obtain⟨D,e,sz,l,E,_⟩:=lD d
   exact .inr ⟨_,by rw[I k D];exact E,rfl⟩
  ·rcases p with p|p
   ·exact h.sub b o v p
   ·exact p.1
  ·rcases p with p|⟨_,k,c,e,sz,l,r,L⟩
   ·exact .inl ⟨_,_,p⟩
   ·have H:look A'.m k=some (.rw e sz l):=by rw[I k c];exact r
    refine .inr ⟨?_,λj x hj S U V=>?_⟩
    ·obtain⟨M,ho,_⟩:=h.ent k _ H
     exact ho.2 b L
    ·have W:j≠k:=λe1=>by
      subst e1;rw[yq c r]at hj;cases hj
     exact h.sep j k x _ b W S U H rfl V L
  ·obtain⟨D,e,sz,l,E,rfl⟩:=lD d
   exact B k D e sz l E
  ·obtain⟨_,e,sz,l,_,rfl⟩:=lD d
   cases r
 ·rcases F with ⟨e,sz,F⟩|F
  ·exact B k c e sz l F
  ·have:=h.ent k _ (by rw[I k c];exact F)
   exact RV.mono K this
theorem yr{c:AC}{v:Value}{x:PV}(a:pU A c=some x)(h:RC C ρ c v)(hr:∀k∈c.refs,∀l,((∃e sz,look A.m k=some (.rw e sz l)) \/look A.m k=some (.fz l)) ->RV C (.sl l) (ρ k)):RV C x v:=by
 cases c with
 |p y=>
  obtain rfl:=JB a;exact RV.nz h
 |row k=>
  have h:v=ρ k:=h;subst h;simp only[pU]at a;split at a
  ·rename_i e sz l b
   obtain rfl:=JB a;exact hr k (by simp[AC.refs]) l (.inl ⟨e,sz,b⟩)
  ·rename_i l b
   obtain rfl:=JB a;exact hr k (by simp[AC.refs]) l (.inr b)
  ·cases a
 |_=>cases a
theorem pb':∀{cs:List AC} {xs:List PV},uE A cs=some xs ->xs.length=cs.length/\∀(i:Nat) c,cs[i]?=some c ->∃x,xs[i]?=some x/\pU A c=some x
 |[],xs,h=>by
  obtain rfl:=JB h;exact⟨rfl,λi c e=>by simp at e⟩
 |c::r,xs,h=>by
  have h:(match pU A c with
   |some y=>match uE A r with
    |some r=>some (y::r)
    |none=>none
   |none=>none)=some xs:=h
  split at h
  ·rename_i y g
   split at h
   ·rename_i p a
    obtain rfl:=JB h;obtain⟨j,l⟩:=pb' a;refine⟨by simp[j],λi d b=>?_⟩;cases i with
    |zero=>
     obtain rfl:=JB b;exact⟨y,rfl,g⟩
    |succ i=>exact l i d b
   ·cases h
  ·cases h
theorem yt{a:AV}{v:Value}{x:PV}(b:oS A a=some x)(h:RA C ρ a v)(hr:∀k∈a.refs,∀l,((∃e sz,look A.m k=some (.rw e sz l)) \/look A.m k=some (.fz l)) ->RV C (.sl l) (ρ k)):RV C x v:=by
 cases a with
 |c y=>exact yr b h hr
 |agg cs=>
  simp only[oS]at b;split at b
  ·rename_i l p
   obtain rfl:=JB b;obtain⟨r,rfl,F,t⟩:=h;obtain⟨H,z⟩:=pb' p;refine RV.agg l r Uo λi y u B j=>?_;have I:=aL j;have g:cs[i]?=some cs[i]:=gE;obtain⟨K,d,D⟩:=z i _ g;rw[B]at d;obtain rfl:=JB d;exact yr D (t i _ u g j) λk E=>hr k (jQ (JQ g) E)
  ·cases b
 |tp cs=>cases b
end
structure rB(C:Mem)(w:World)(C':Mem)(w':World):Prop where
 sub:Sub C' w'
 c:∀b o v,C b o v ->C' b o v
 n:∀b o v,C' b o v ->Hb C b \/w.heap.size<=b
 kp:Kp [] w w'
def db(C:Mem)(ps:List PV)(vs:List Value):Prop:=vs.length=ps.length/\∀(i:Nat) x v,ps[i]?=some x ->vs[i]?=some v ->RV C x v
def PV.flat:PV ->Bool
 | .int _ _=>true
 | .bool _=>true
 |_=>false
theorem RV.flat{C D:Mem}{r:PV}{v:Value}(a:r.flat=true)(h:RV C r v):RV D r v:=by
 cases h with
 |int j m=>exact .int j m
 |bool b=>exact .bool b
 |_=>cases a
def cM(A:AS)(l:List AV):Option (List PV):=List.rec (motive:=λ_=>Option (List PV)) (some []) (λx _ ih=>match oS A x with
 |some y=>match ih with
  |some r=>some (y::r)
  |none=>none
 |none=>none) l
def refsA(l:List AV):List Nat:=List.rec (motive:=λ_=>List Nat) [] (λx _ ih=>x.refs++ih) l
def rkOf(A:AS)(mv:Nat)(l:List Nat):List Nat:=match mv with
 |1=>[]
 |2=>deepK A l
 |_=>l
def dk(l:List Nat):List (Nat×SE):=l.map λk=>(k,.dead)
theorem yu{l:List Nat}{k:Nat}{x:SE}(h:look (dk l) k=some x):x= .dead:=by
 obtain⟨p,_,e⟩:=List.mem_map.1 (dm h);injection e with _ e
 exact e.symm
theorem JI{l:List Nat}{k:Nat}(h:k∈l):look (dk l) k=some .dead:=by
 induction l with
 |nil=>cases h
 |cons j r b=>
  show look ((j,SE.dead)::dk r) k=_;rw[cG];cases a:Nat.beq j k with
  |true=>rfl
  |false=>
   rcases List.mem_cons.1 h with rfl|h
   ·rw[Nat.beq_refl]at a;cases a
   ·exact b h
def yv(w0:World)(X:List Nat)(C0:Mem)(P:Program)(τ:Tau)(n:Nat)(o:Oper)(A:AS)(ch:List PanicEntry)(ks:List Nat):Prop:=
 ∀A' s w (K:St ->World ->Prop) (kp:List PanicEntry ->St ->World ->Prop),Agr (ja' o.op) A A' (av' o.op) ->Rep w0 X C0 A' s w ->(∀w',Rep w0 X C0 (A'.upd [] (dk ks)) s w' ->kp ch s w') ->aW P τ n o s w K kp
def rC(w0:World)(X:List Nat)(C0:Mem)(P:Program)(τ:Tau)(n:Nat)(o:Oper)(A:AS)(k:Kk)(pn:List PanicEntry ->List Nat ->Prop):Prop:=cv w0 X C0 P τ n o A k \/∃ch ks,pn ch ks/\yv w0 X C0 P τ n o A ch ks
theorem Rp.kill{w0 w w':World}{X Z:List Nat}{C0 C:Mem}{A:AS}{s:St}{ρ:Nat ->Value}(h:Rp w0 X C0 A s w C ρ){l:List Nat}(c:Kp Z w w')(u:∀z∈Z,∃k∈l,∃x,look A.m k=some x/\x.mut=true/\blk (ρ k)=some z):Rep w0 X C0 (A.upd [] (dk l)) s w':=by
 refine⟨C,ρ,h.step (wr:=[]) [] (λ_ _=>rfl) (λk c=>by cases c) (λk c=>by cases c) (λk x d y=>by rw[yu d]at y;cases y) c (λz i=>?_) (λ_ _ _ h=>h) (λb o v e=>(h.sub b o v e).kp c λi=>?_) (λb o v e=>.inl ⟨_,_,e⟩) (λk x d=>by rw[yu d];exact VQ) (λk x g d B=>by rw[yu d]at B;cases B) (λt a D=>by cases D) (λ_ _=>rfl)⟩
 ·obtain⟨k,c,x,j,p,r⟩:=u z i
  exact⟨k,_,x,JI c,j,p,r⟩
 ·obtain⟨k,c,x,j,p,r⟩:=u b i
  exact h.off k x b b o v j p r e rfl
section
variable{w0:World}{X:List Nat}{C0:Mem}{P:Program}{τ:Tau}{n:Nat}{o:Oper}{A A':AS}{k:Kk}{s s':St}{w w':World}{C C':Mem}{ρ:Nat ->Value}
theorem DM{l:List AV}{x:AV}(h:x∈l){k:Nat}(a:k∈x.refs):k∈refsA l:=by
 induction l with
 |nil=>cases h
 |cons y r b=>
  show k∈y.refs++refsA r;rcases List.mem_cons.1 h with rfl|h
  ·exact QW _ a
  ·exact QV _ (b h)
theorem DN{l:List AV}{k:Nat}(a:k∈refsA l):∃x∈l,k∈x.refs:=by
 induction l with
 |nil=>cases a
 |cons y r c=>
  have a:k∈y.refs++refsA r:=a;rcases List.mem_append.1 a with h|h
  ·exact⟨y,Ud,h⟩
  ·obtain⟨x,d,b⟩:=c h
   exact⟨x,by simp[d],b⟩
theorem qH':∀{l:List Operand} {b:List AV ->Prop},uC A l b ->∃aes,aes.length=l.length/\b aes/\∀(i:Nat) x,l[i]?=some x ->∃a,aes[i]?=some a/\ao A x=some a/\Lv A a.refs
 |[],b,h=>⟨[],rfl,h,λi x d=>by simp at d⟩
 |x::r,b,h=>by
  obtain⟨a,h1,h2,h3⟩:=bT (show rd A x _ from h);obtain⟨aes,e,g,j⟩:=qH' (l:=r) h3;refine⟨a::aes,by simp[e],g,λi y c=>?_⟩;cases i with
  |zero=>
   obtain rfl:=JB c;exact⟨a,rfl,h1,h2⟩
  |succ i=>exact j i y c
theorem rD{e:List (Nat×Value)}:∀{l:List Operand} {vs:List Value} {a:List Value ->Prop},vs.length=l.length ->(∀(i:Nat) x,l[i]?=some x ->∃v,vs[i]?=some v/\ev e x=some v) ->a vs ->wvs e l a
 |[],vs,a,hl,_,b=>by
  obtain rfl:vs=[]:=List.length_eq_zero_iff.1 hl;exact b
 |x::r,vs,a,hl,c,b=>by
  match vs,hl with
  |v::vs,hl=>
   obtain⟨u,d,g⟩:=c 0 x rfl;obtain rfl:=JB d;exact be g (rD (l:=r) (by simpa using hl) (λi y j=>c (i+1) y j) b)
theorem Rp.ops{mv:Nat}(h:Rp w0 X C0 A' s w C ρ){l g:List Operand}(t:Agr mv A A' g)(hl:∀x∈l,x∈g){aes:List AV}(c:aes.length=l.length)(has:∀(i:Nat) x,l[i]?=some x ->∃a,aes[i]?=some a/\ao A x=some a/\Lv A a.refs):
  ∃vs:List Value,vs.length=l.length/\(∀(i:Nat) x,l[i]?=some x ->∃v,vs[i]?=some v/\ev s.e x=some v)/\∀(i:Nat) a v,aes[i]?=some a ->vs[i]?=some v ->RA C ρ a v:=by
 induction l generalizing aes with
 |nil=>exact⟨[],rfl,λi x z=>by simp at z,λi a v M e=>by simp at e⟩
 |cons x r B=>
  match aes,c with
  |a::aes,c=>
   obtain⟨N,D,E,F⟩:=has 0 x rfl;obtain rfl:=JB D;obtain⟨_,v,e,H⟩:=h.op t (hl x Ud) E F;obtain⟨vs,I,K,L⟩:=B (λy d=>hl y (by simp[d])) (aes:=aes) (by simpa using c) λi y d=>has (i+1) y d;refine⟨v::vs,by simp[I],λi y d=>?_,λi b u j p=>?_⟩
   ·cases i with
    |zero=>
     obtain rfl:=JB d;exact⟨v,rfl,e⟩
    |succ i=>exact K i y d
   ·cases i with
    |zero=>
     obtain rfl:=JB j;obtain rfl:=JB p;exact H
    |succ i=>exact L i b u j p
theorem pe':∀{aes:List AV} {ps:List PV},cM A aes=some ps ->ps.length=aes.length/\∀(i:Nat) a,aes[i]?=some a ->∃x,ps[i]?=some x/\oS A a=some x
 |[],ps,h=>by
  obtain rfl:=JB h;exact⟨rfl,λi c g=>by simp at g⟩
 |c::r,j,h=>by
  have h:(match oS A c with
   |some y=>match cM A r with
    |some r=>some (y::r)
    |none=>none
   |none=>none)=some j:=h
  split at h
  ·rename_i y l
   split at h
   ·rename_i u b
    obtain rfl:=JB h;obtain⟨p,t⟩:=pe' b;refine⟨by simp[p],λi d e=>?_⟩;cases i with
    |zero=>
     obtain rfl:=JB e;exact⟨y,rfl,l⟩
    |succ i=>exact t i d e
   ·cases h
  ·cases h
theorem NoRef.frz{d:Nat}(h:NoRef d A')(ks:List Nat):NoRef d (A'.upd [] (bM A ks)):=
 ⟨h.e,λj x b=>by
  rcases look_app_some b with a|⟨_,a⟩
  ·obtain⟨_,_,_,_,_,rfl⟩:=lD a
   simp[SE.refs]
  ·exact h.m j x a,λx b=>by
  rcases look_app_some b with a|⟨_,a⟩
  ·obtain⟨_,_,_,_,_,rfl⟩:=lD a
   rfl
  ·exact h.un x a⟩
end
def lE(A:AS):AC ->Bool
 | .p x=>x.one
 | .row k=>match look A.m k with
  |some (.rw _ _ _)=>true
  |some (.fz _)=>true
  |some (.ob _ _)=>true
  |_=>false
 | .rv _ _=>false
 | .cl _=>false
 |_=>true
def bH(A:AS)(l:List AC):Bool:=List.rec (motive:=λ_=>Bool) true (λx _ ih=>match lE A x with
 |true=>ih
 |false=>false) l
def nN(A:AS)(a:AV):Option (List AC):=match a with
 | .agg cs=>match bH A cs with
  |true=>some cs
  |false=>none
 | .c (.p (.agg ps))=>match bH A (ps.map .p)with
  |true=>some (ps.map .p)
  |false=>none
 | .c x=>match lE A x with
  |true=>some [x]
  |false=>none
 | .tp _=>none
def ii(v:Value):AC:=match v with
 | .int k m=>.p (.int k m)
 | .bool b=>.p (.bool b)
 |v=>.p (.raw v)
def AO':List AC ->Nat ->List AC ->List AC
 |cs,_,[]=>cs
 |cs,o,v::r=>AO' (cs.set o v) (o+1) r
def mC(A:AS)(place:Nat ->Option (Nat×Nat)):List AC ->List (Nat×AV) ->Option (List AC)
 |cs,[]=>some cs
 |cs,(i,a)::r=>match place i,nN A a with
  |some (o,sz),some ds=>match Nat.beq ds.length sz,Nat.ble (o+sz) cs.length with
   |true,true=>mC A place (AO' cs o ds) r
   |_,_=>none
  |_,_=>none
section
variable(P:Program)(τ:Tau)(n:Nat)(o:Oper)(A:AS)(k:Kk)
def uF(T:Nat)(cs:List AC):Prop:=match o.dst with
 |some d=>match Nat.ble (d+1) n with
  |true=>k [(d,.c (.ptr d 0))] [(d,.st 0 T cs)] [d]
  |false=>False
 |none=>False
def yw(T:Nat):Prop:=match τ.zero T with
 |some z=>match bH A (z.map ii)with
  |true=>uF n o k T (z.map ii)
  |false=>False
 |none=>False
def yx(T:Nat)(a:AV):Prop:=match nN A a with
 |some cs=>uF n o k T cs
 |none=>False
def yy(T:Nat)(aes:List (Nat×AV)):Prop:=match look τ.tab T with
 |some (fs,z)=>match mC A (qY fs) ((z.map zc).map ii) aes with
  |some cs=>out n o k (.agg cs)
  |none=>False
 |none=>False
def yz(T:Nat)(a b:AV):Prop:=match a with
 | .c (.ptr j off)=>match look A.m j with
  |some (.st g T' cs)=>match look τ.ones T with
   |some _=>match b with
    | .c c=>match lE A c,Nat.ble (off+1) cs.length with
     |true,true=>fin n o.dst (.c (.p (.raw undef))) λwr=>k wr [(j,.st g T' (cs.set off c))] []
     |_,_=>False
    |_=>False
   |none=>match look τ.tab T,nN A b,b.isAgg with
    |some (_,z),some ds,true=>match Nat.beq ds.length z.length,Nat.beq ds.length cs.length,off with
     |true,true,0=>fin n o.dst (.c (.p (.raw undef))) λwr=>k wr [(j,.st g T' ds)] []
     |_,_,_=>False
    |_,_,_=>False
  |_=>False
 |_=>False
end
section
variable{w0:World}{X:List Nat}{C0:Mem}{P:Program}{τ:Tau}{n:Nat}{o:Oper}{A A':AS}{k:Kk}{s s':St}{w w':World}{C C':Mem}{ρ:Nat ->Value}
def RL(C:Mem)(ρ:Nat ->Value)(cs:List AC)(us:List Value):Prop:=us.length=cs.length/\∀(i:Nat) c u,cs[i]?=some c ->us[i]?=some u ->u.oneCell'=true/\RC C ρ c u
theorem yA(h:Rp w0 X C0 A' s w C ρ){c:AC}(t:∀k∈c.refs,look A'.m k=look A.m k)(hc:lE A c=true){v:Value}(d:RC C ρ c v):v.oneCell'=true:=by
 cases c with
 |p x=>exact RV.one d hc
 |row j=>
  have d:v=ρ j:=d;subst d;simp only[lE]at hc;split at hc
  ·rename_i e z l r
   obtain⟨B,D,_⟩:=h.ent j _ (by rw[t j (by simp[AC.refs])];exact r);obtain⟨a,y,e,_⟩:=pB D.1;rw[e]
   rfl
  ·rename_i l r
   have:=h.ent j _ (by rw[t j (by simp[AC.refs])];exact r);obtain⟨a,y,e⟩:=RV.slv (show RV C (.sl l) (ρ j)from this);rw[e]
   rfl
  ·rename_i g Q r
   obtain⟨b,_,e,_⟩:=h.ent j _ (by rw[t j (by simp[AC.refs])];exact r);rw[e]
   rfl
  ·cases hc
 |ptr j o=>
  obtain⟨b,_,rfl⟩:=d
  rfl
 |ep cs o=>
  obtain⟨b,F,f,rfl,_⟩:=d
  rfl
 |rp j z i o=>
  obtain⟨b,m,c,_,rfl⟩:=d
  rfl
 |fn f E=>
  obtain rfl:=d
  rfl
 |fr u f E=>
  obtain rfl:=d.2
  rfl
 |rv u j=>cases hc
 |cl l=>cases hc
theorem lH':∀{l:List AC} {c:AC},bH A l=true ->c∈l ->lE A c=true
 |x::r,c,h,hc=>by
  have h:(match lE A x with
   |true=>bH A r
   |false=>false)=true:=h
  split at h
  ·rename_i a
   rcases List.mem_cons.1 hc with rfl|hc
   ·exact a
   ·exact lH' h hc
  ·cases h
theorem JL{v:Value}(h:v.oneCell'=true):v.cells= #[v]:=by
 cases v<;>first|rfl|cases h
theorem uG(h:Rp w0 X C0 A' s w C ρ){a:AV}(F:∀k∈a.refs,look A'.m k=look A.m k){cs:List AC}(b:nN A a=some cs){v:Value}(y:RA C ρ a v):RL C ρ cs v.cells.toList/\∀k∈refsL cs,k∈a.refs:=by
 have one:∀x:AC,a= .c x ->lE A x=true ->cs=[x] ->RL C ρ cs v.cells.toList/\∀k∈refsL cs,k∈a.refs:=λx e K L=>by
  subst e;subst L;have z:=yA h F K y;rw[JL z];refine⟨⟨rfl,λi c u d j=>?_⟩,λk t=>by simpa[refsL,AV.refs]using t⟩
  match i,d,j with
  |0,d,j=>
   obtain rfl:=JB d;obtain rfl:=JB j;exact⟨z,y⟩
 unfold nN at b;split at b
 ·rename_i N
  split at b
  ·rename_i g
   obtain rfl:=JB b;obtain⟨H,rfl,z,B⟩:=y;exact⟨⟨z,λi c u d j=>⟨yA h (λk t=>F k (jQ (JQ d) t)) (lH' g (JQ d)) (B i c u d j),B i c u d j⟩⟩,λk t=>t⟩
  ·cases b
 ·rename_i ps
  split at b
  ·rename_i g
   obtain rfl:=JB b;have y:RV C (.agg ps) v:=y;have E:∀l:List PV,refsL (l.map .p)=[]:=λl=>by
    induction l with
    |nil=>rfl
    |cons x r M=>exact M
   cases y with
   |agg _ H z B=>
    refine⟨⟨by show H.length=_;simpa using z,λi c u d j=>?_⟩,λk t=>by rw[E]at t;cases t⟩;rw[JX]at d;cases D:ps[i]? with
    |none=>rw[D]at d;cases d
    |some p=>
     rw[D]at d;obtain rfl:=JB d;have I:=B i p u D j;exact⟨RV.one I (lH' g (QD (JQ D))),I⟩
  ·cases b
 ·rename_i x _
  split at b
  ·rename_i g
   exact one x rfl g (JB b).symm
  ·cases b
 ·cases b
theorem uH{z:List Value}(g:bH A (z.map ii)=true):RL C ρ (z.map ii) z:=by
 refine⟨Ud,λi c u d e=>?_⟩;rw[JX,e]at d;obtain rfl:=JB d;have a:=lH' g (QD (JQ e));have b:RC C ρ (ii u) u:=by cases u<;>first|exact RV.int _ _|exact RV.bool _|exact RV.raw _
 refine⟨?_,b⟩;have:∃x,ii u= .p x:=by cases u<;>exact⟨_,rfl⟩
 obtain⟨x,j⟩:=this;rw[j]at a b;exact RV.one b a
theorem DO(z:List Value):refsL (z.map ii)=[]:=by
 induction z with
 |nil=>rfl
 |cons x r a=>cases x<;>exact a
theorem NoRef.op{d:Nat}(h:NoRef d A'){x:Operand}{a:AV}(ha:ao A' x=some a):d ∉ a.refs:=by
 cases x with
 |tmp t=>exact h.e t a ha
 |const v=>
  obtain rfl:=JB ha;cases v<;>simp[cst,AV.refs,AC.refs]
 |func f=>
  obtain rfl:=JB ha;simp[AV.refs,AC.refs]
 |global g=>cases ha
theorem DP{T:Nat}{cs:List AC}(h:uF n o k T cs)
  (H:∀A' s w C ρ,Agr (ja' o.op) A A' (av' o.op) ->Rp w0 X C0 A' s w C ρ ->∃us,RL C ρ cs us/\(∀d,NoRef d A' ->d ∉ refsL cs)/\∀(K:St ->World ->Prop) (kp:List PanicEntry ->St ->World ->Prop),(EvNew w T us λb w'=>put n s o.dst (.pointer (some ⟨b,0,none⟩)) λs'=>K s' w') ->aW P τ n o s w K kp):cv w0 X C0 P τ n o A k:=by
 unfold uF at h;split at h
 ·rename_i d F
  split at h
  ·rename_i I
   refine⟨_,_,_,h,λA' s w K kp L v p M=>?_⟩;obtain⟨C,ρ,p⟩:=p;obtain⟨us,⟨N,D⟩,l,x⟩:=H A' s w C ρ L p;have v:=v d Ud;refine x K kp (fD λb w' O Q R y=>?_);rw[F];unfold put;simp only[I];obtain⟨e,V⟩:=s;have l:=l d v;refine M _ _ ⟨C,jS ρ d (.pointer (some ⟨b,0,none⟩)),p.fresh v y (λg S=>?_) ⟨b,us,gc _ _ _,Q,.inl ⟨rfl,?_⟩,N,λi c u z E=>⟨(D i c u z E).1,λ_=>RC.eqv (D i c u z E).2 λj U=>rA λe=>l (e▸jQ (JQ z) U)⟩⟩ (λt a r=>?_) λt r=>?_⟩ rfl
   ·obtain rfl:b=g:=JB S
    omega
   ·rw[O]
    exact p.kp.size
   ·obtain⟨rfl,rfl⟩:=bU r
    refine⟨.pointer (some ⟨b,0,none⟩),?_,b,gc _ _ _,rfl⟩;rw[eQ,Nat.beq_refl]
   ·rw[cG]at r
    rw[eQ];cases B:Nat.beq d t with
    |true=>rw[B]at r;cases r
    |false=>rfl
  ·exact h.elim
 ·exact h.elim
theorem JM{T:Nat}(b:o.op= .alloc T)(h:yw τ n o A k T):cv w0 X C0 P τ n o A k:=by
 unfold yw at h;split at h
 ·rename_i z c
  split at h
  ·rename_i a
   refine DP h λA' s w C ρ g i=>⟨z,uH a,λd _=>by rw[DO];simp,λK j e=>?_⟩
   unfold aW;simp only[b,c];exact e
  ·exact h.elim
 ·exact h.elim
theorem JN{T:Nat}{x:Operand}{a:AV}(c:o.op= .box T x)(ha:ao A x=some a)(hl:Lv A a.refs)(h:yx n o A k T a):cv w0 X C0 P τ n o A k:=by
 have b:x∈av' o.op:=by rw[c];simp[av']
 unfold yx at h;split at h
 ·rename_i cs e
  refine DP h λA' s w C ρ g i=>?_;obtain⟨_,v,j,l⟩:=i.op g b ha hl;obtain⟨p,r⟩:=uG i (g.m (by rw[c];rfl) x b a ha) e l;refine⟨_,p,λd t u=>t.op (x:=x) (by rw[g.e x b];exact ha) (r d u),λK z y=>?_⟩;unfold aW;simp only[c];exact be j y
 ·exact h.elim
theorem za':∀{ds:List AC} {vs:List Value} {cs:List AC} {us:List Value} {o:Nat},RL C ρ ds vs ->RL C ρ cs us ->RL C ρ (AO' cs o ds) (lay us o vs)
 |[],vs,cs,us,o,h,h2=>by
  obtain rfl:vs=[]:=List.length_eq_zero_iff.1 h.1;exact h2
 |d::r,vs,cs,us,o,h,h2=>by
  match vs,h with
  |v::vs,h=>
   simp only[AO',lay];refine za' (ds:=r) (vs:=vs) ⟨by simpa using h.1,λi c u a b=>h.2 (i+1) c u a b⟩ ⟨by simpa using h2.1,λi c u a b=>?_⟩;rw[List.getElem?_set]at a b
   by_cases e:o=i
   ·subst e
    simp only[if_true]at a b;split at a
    ·split at b
     ·obtain rfl:=JB a
      obtain rfl:=JB b;exact h.2 0 _ _ rfl rfl
     ·cases b
    ·cases a
   ·rw[KY e]at a b
    exact h2.2 i c u a b
theorem yB{b:Nat ->Option (Nat×Nat)}:∀{aes:List (Nat×AV)} {vs:List (Nat×Value)} {cs ds:List AC} {us:List Value},mC A b cs aes=some ds ->vs.length=aes.length ->(∀(i:Nat) p q,aes[i]?=some p ->vs[i]?=some q ->p.1=q.1/\∀es,nN A p.2=some es ->RL C ρ es q.2.cells.toList) ->RL C ρ cs us ->
  ∃c,mn b us vs=some c/\RL C ρ ds c
 |[],vs,cs,ds,us,h,hl,g,hr=>by
  obtain rfl:vs=[]:=List.length_eq_zero_iff.1 hl;obtain rfl:=JB h;exact⟨us,rfl,hr⟩
 |(i,a)::r,vs,cs,ds,us,h,hl,g,hr=>by
  match vs,hl with
  |(j,v)::vs,hl=>
   obtain⟨e,d⟩:=g 0 _ _ rfl rfl;have e:i=j:=e;subst e;simp only[mC]at h;split at h
   ·rename_i B l es t u
    split at h
    ·rename_i x D
     have x:=QJ x;have d:=d es u;have y:=za' (o:=B) d hr;obtain⟨c,q1,E⟩:=yB (aes:=r) (vs:=vs) h (by simpa using hl) (λm p q z F=>g (m+1) p q z F) y;refine⟨c,?_,E⟩;simp only[mn,t];have H:Nat.beq v.cells.toList.length l=true:=by rw[d.1,x];exact Nat.beq_refl l
     have I:Nat.ble (B+l) us.length=true:=by rw[hr.1];exact D
     simp only[H,I];exact q1
    ·cases h
   ·cases h
theorem tC':∀{l:List (Nat×Operand)} {b:List (Nat×AV) ->Prop},yc A l b ->∃aes,aes.length=l.length/\b aes/\∀(i:Nat) x,l[i]?=some x ->∃a,aes[i]?=some (x.1,a)/\ao A x.2=some a/\Lv A a.refs
 |[],b,h=>⟨[],rfl,h,λi x d=>by simp at d⟩
 |x::r,b,h=>by
  obtain⟨a,h1,h2,h3⟩:=bT (show rd A x.2 _ from h);obtain⟨aes,e,g,j⟩:=tC' (l:=r) h3;refine⟨(x.1,a)::aes,by simp[e],g,λi y c=>?_⟩;cases i with
  |zero=>
   obtain rfl:=JB c;exact⟨a,rfl,h1,h2⟩
  |succ i=>exact j i y c
theorem yC{e:List (Nat×Value)}:∀{l:List (Nat×Operand)} {vs:List (Nat×Value)} {a:List (Nat×Value) ->Prop},vs.length=l.length ->(∀(i:Nat) x,l[i]?=some x ->∃v,vs[i]?=some (x.1,v)/\ev e x.2=some v) ->a vs ->wvp e l a
 |[],vs,a,hl,_,b=>by
  obtain rfl:vs=[]:=List.length_eq_zero_iff.1 hl;exact b
 |x::r,vs,a,hl,c,b=>by
  match vs,hl with
  |v::vs,hl=>
   obtain⟨u,d,g⟩:=c 0 x rfl;obtain rfl:=JB d;exact be g (yC (l:=r) (by simpa using hl) (λi y j=>c (i+1) y j) b)
theorem Rp.opp{mv:Nat}(e:Nat.beq mv 1=false)(h:Rp w0 X C0 A' s w C ρ){l:List (Nat×Operand)}{j:List Operand}(t:Agr mv A A' j)(hl:∀x∈l,x.2∈j){aes:List (Nat×AV)}(c:aes.length=l.length)(has:∀(i:Nat) x,l[i]?=some x ->∃a,aes[i]?=some (x.1,a)/\ao A x.2=some a/\Lv A a.refs):
  ∃vs:List (Nat×Value),vs.length=l.length/\(∀(i:Nat) x,l[i]?=some x ->∃v,vs[i]?=some (x.1,v)/\ev s.e x.2=some v)/\∀(i:Nat) p q,aes[i]?=some p ->vs[i]?=some q ->p.1=q.1/\RA C ρ p.2 q.2/\∀k∈p.2.refs,look A'.m k=look A.m k:=by
 induction l generalizing aes with
 |nil=>
  obtain rfl:aes=[]:=List.length_eq_zero_iff.1 c;exact⟨[],rfl,λi x E=>by simp at E,λi a v Q g=>by simp at g⟩
 |cons x r F=>
  match aes,c with
  |a::aes,c=>
   obtain⟨H,I,z,K⟩:=has 0 x rfl;obtain rfl:=JB I;obtain⟨_,v,g,L⟩:=h.op t (hl x Ud) z K;obtain⟨vs,M,N,O⟩:=F (λy d=>hl y (by simp[d])) (aes:=aes) (by simpa using c) λi y d=>has (i+1) y d;refine⟨(x.1,v)::vs,by simp[M],λi y d=>?_,λi b u B D=>?_⟩
   ·cases i with
    |zero=>
     obtain rfl:=JB d;exact⟨v,rfl,g⟩
    |succ i=>exact N i y d
   ·cases i with
    |zero=>
     obtain rfl:=JB B;obtain rfl:=JB D;exact⟨rfl,L,t.m e x.2 (hl x Ud) H z⟩
    |succ i=>exact O i b u B D
theorem JO{T:Nat}{ps:Array (Nat×Operand)}{aes:List (Nat×AV)}(D:∀z:List Nat,bH A ((z.map zc).map ii)=true)(g:o.op= .build T ps)(b:aes.length=ps.toList.length)(has:∀(i:Nat) x,ps.toList[i]?=some x ->∃a,aes[i]?=some (x.1,a)/\ao A x.2=some a/\Lv A a.refs)(h:yy τ n o A k T aes):cv w0 X C0 P τ n o A k:=by
 have d:∀x∈ps.toList,x.2∈av' o.op:=λx E=>by rw[g];exact QD (f:=(·.2)) E
 unfold yy at h;split at h
 ·rename_i Q z F
  split at h
  ·rename_i cs j
   refine dz h λA' s w C ρ H v=>?_;obtain⟨I,L,M,l⟩:=Rp.opp (mv:=ja' o.op) (by rw[g];rfl) v H d b has;obtain⟨y,q1,B⟩:=yB (C:=C) (ρ:=ρ) (vs:=I) (us:=z.map zc) j Uo (λi p q e r=>⟨(l i p q e r).1,λR t=>(uG v (l i p q e r).2.2 t (l i p q e r).2.1).1⟩) (uH (D z));refine⟨.agg y.toArray,λ_=>⟨y,rfl,B.1,λi c u N O=>(B.2 i c u N O).2⟩,λK S e=>?_⟩;unfold aW;simp only[g];refine yC L M ?_;simp only[F,q1];exact e
  ·exact h.elim
 ·exact h.elim
theorem JP(A:AS)(z:List Nat):bH A ((z.map zc).map ii)=true:=by
 induction z with
 |nil=>rfl
 |cons x r a=>
  have:lE A (ii (zc x))=true:=by
   unfold zc;split<;>rfl
  show (match lE A (ii (zc x))with
   |true=>bH A ((r.map zc).map ii)
   |false=>false)=true
  rw[this];exact a
end
section
variable{w0:World}{X:List Nat}{C0:Mem}{P:Program}{τ:Tau}{n:Nat}{o:Oper}{A A':AS}{k:Kk}{s s':St}{w w':World}{C C':Mem}{ρ:Nat ->Value}
theorem Rp.modSt(h:Rp w0 X C0 A' s w C ρ){j b T:Nat}{F:Nat}{cs cs':List AC}{us':List Value}(hm:look A'.m j=some (.st F T cs))(H:ρ j= .pointer (some ⟨b,0,none⟩))(l:Kp [b] w w')(R:Bk w'.heap b us' T)(hl:us'.length=cs'.length)
  (hc:∀(i:Nat) c u,cs'[i]?=some c ->us'[i]?=some u ->u.oneCell'=true/\(Lv A' c.refs ->RC C ρ c u)) {wr:List (Nat×AV)} (S:∀t a,look wr t=some a ->∃v,get s'.e t=some v/\RA C ρ a v) (I:∀t,look wr t=none ->get s'.e t=get s.e t):
  Rp w0 X C0 (A'.upd wr [(j,.st F T cs')]) s' w' C ρ:=by
 have d:blk (ρ j)=some b:=by rw[H];rfl
 have r:∀(k:Nat) x,look [(j,SE.st F T cs')] k=some x ->x.alive=true ->k∈([]:List Nat) \/∃y,look A'.m k=some y/\y.alive=true:=λk x B _=>by
  obtain⟨rfl,rfl⟩:=bU B;exact .inr ⟨_,hm,rfl⟩
 refine h.step [] (λ_ _=>rfl) (λk l=>by cases l) (λk l=>by cases l) r l (λz U=>?_) (λ_ _ _ h=>h) (h.sub.kp l λg o v hc E=>?_) (λ_ _ _ h=>.inl ⟨_,_,h⟩) (λk x B=>?_) (λk x g B V E=>?_) (λt a K _=>S t a K) I
 ·obtain rfl:z=b:=by simpa using U
  exact⟨j,_,_,mA _ _ _,hm,rfl,d⟩
 ·obtain rfl:g=b:=by simpa using E
  exact h.off j _ g g o v hm rfl d hc rfl
 ·obtain⟨rfl,rfl⟩:=bU B
  obtain⟨O,Z,e,_,L,_⟩:=h.ent _ _ hm;rw[H]at e;injection e with e
  injection e with e
  injection e with e
  subst e;exact⟨b,us',H,R,L,hl,λi c u p Q=>⟨(hc i c u p Q).1,λW=>(hc i c u p Q).2 (W.up r λk l=>by cases l)⟩⟩
 ·obtain⟨rfl,rfl⟩:=bU B
  rw[d]at E;obtain rfl:=JB E;refine⟨λi y D Y M N=>?_,λO o v hc e=>?_⟩
  ·rcases look_app_some Y with p|⟨_,p⟩
   ·exact D (bU p).1
   ·exact h.sep i k y _ b D p M hm rfl N d
  ·exact h.off k _ b O o v hm rfl d hc e
theorem JR{T:Nat}{x y:Operand}{a b:AV}(O:o.op= .store T x y)(ha:ao A x=some a)(a4:Lv A a.refs)(hb:ao A y=some b)(Y:Lv A b.refs)(h:yz τ n o A k T a b):cv w0 X C0 P τ n o A k:=by
 have Z:x∈av' o.op:=by rw[O];simp[av']
 have L:y∈av' o.op:=by rw[O];simp[av']
 unfold yz at h;split at h
 ·rename_i j a0
  split at h
  ·rename_i g0 T' cs hm
   have a1:∀A' s w C ρ,Agr (ja' o.op) A A' (av' o.op) ->Rp w0 X C0 A' s w C ρ ->look A'.m j=some (.st g0 T' cs)/\∃q Q,ev s.e x=some (.pointer (some ⟨q,a0,none⟩))/\ρ j= .pointer (some ⟨q,0,none⟩)/\Bk w.heap q Q T'/\Q.length=cs.length/\∀(i:Nat) c u,cs[i]?=some c ->Q[i]?=some u ->u.oneCell'=true/\(Lv A' c.refs ->RC C ρ c u):=λA' s w C ρ F l=>by
    have r:=F.at (by rw[O];rfl) Z ha (by simp[AV.refs,AC.refs]) hm;obtain⟨_,v,R,q,W,rfl⟩:=l.op F Z ha a4;obtain⟨q',Q,g,hB,_,p,hc⟩:=l.ent j _ r;rw[W]at g;injection g with g
    injection g with g
    injection g with g
    subst g;exact⟨r,q,Q,R,W,hB,p,hc⟩
   split at h
   ·rename_i t1 S
    split at h
    ·rename_i c
     split at h
     ·rename_i a5 a2
      have a2:=QX a2;obtain⟨wr,hk,hw,B⟩:=kC h;refine⟨wr,_,[],hk,λA' s w K kp F _ l hK=>?_⟩;obtain⟨C,ρ,l⟩:=l;obtain⟨r,q,Q,R,W,hB,p,hc⟩:=a1 A' s w C ρ F l;obtain⟨_,u,hu,D⟩:=l.op F L hb Y;have N:=yA l (F.m (by rw[O];rfl) y L _ hb) a5 D;unfold aW;simp only[O];refine be R (be hu ?_);simp only[S];refine Go.Wx.st hB Uo N λw' U a6 V=>B s _ _ λs' h1 h2 h3=>hK s' w' ⟨C,ρ,l.modSt r W V U (by simp[p]) (λi d e H I=>?_) (λt a E=>⟨_,h1 t a E,by have:=hw t a E;subst this;exact RV.raw _⟩) h2⟩ h3;rw[List.getElem?_set]at H I
      by_cases e1:a0=i
      ·subst e1
       simp only[if_true]at H I;split at H
       ·split at I
        ·obtain rfl:=JB H
         obtain rfl:=JB I;exact⟨N,λ_=>D⟩
        ·cases I
       ·cases H
      ·rw[KY e1]at H I
       exact hc i d e H I
     ·exact h.elim
    ·exact h.elim
   ·rename_i S
    split at h
    ·rename_i fs z ds hz a7 a8
     split at h
     ·rename_i h1 h2
      have h1:=QJ h1;have h2:=QJ h2;obtain⟨wr,hk,hw,B⟩:=kC h;refine⟨wr,_,[],hk,λA' s w K kp F _ l hK=>?_⟩;obtain⟨C,ρ,l⟩:=l;obtain⟨r,q,Q,R,W,hB,p,hc⟩:=a1 A' s w C ρ F l;obtain⟨_,u,hu,D⟩:=l.op F L hb Y;obtain⟨M,_⟩:=uG l (F.m (by rw[O];rfl) y L _ hb) a7 D;obtain⟨vs,rfl⟩:=Jy a8 D;unfold aW;simp only[O];refine be R (be hu ?_);have a3:vs.toList.length=ds.length:=M.1;have e1:Nat.beq vs.toList.length z.length=true:=by rw[a3,h1];exact Nat.beq_refl _
      simp only[S,hz,e1];refine Go.Wx.stN hB Uo (λv R=>?_) λw' U a6 V=>B s _ _ λs' g1 g2 g3=>hK s' w' ⟨C,ρ,l.modSt r W V U a3 (λi d e H I=>⟨(M.2 i d e H I).1,λ_=>(M.2 i d e H I).2⟩) (λt a E=>⟨_,g1 t a E,by have:=hw t a E;subst this;exact RV.raw _⟩) g2⟩ g3;obtain⟨i,hi⟩:=JH R;have a9:=aL hi;exact(M.2 i _ v (gE) hi).1
     ·exact h.elim
    ·exact h.elim
  ·exact h.elim
 ·exact h.elim
end
def dp{α:Type}(sz:Nat):Nat ->List α ->List (List α)
 |0,_=>[]
 |m+1,l=>l.take sz::dp sz m (l.drop sz)
theorem uI{α:Type}(sz:Nat):∀(m:Nat) (l:List α),(dp sz m l).length=m
 |0,_=>rfl
 |m+1,l=>by simp[dp,uI sz m]
theorem DR{α:Type}(sz:Nat):∀(m:Nat) (l:List α),l.length=m*sz ->(dp sz m l).flatten=l
 |0,l,h=>by
  have:l=[]:=List.length_eq_zero_iff.1 (by simpa using h);subst this
  rfl
 |m+1,l,h=>by
  rw[Nat.succ_mul]at h;simp only[dp,List.flatten_cons];rw[DR sz m _ (by rw[VK];omega),List.take_append_drop]
theorem uJ{α:Type}(sz:Nat):∀(m:Nat) (l:List α) (i:Nat) (x:List α),l.length=m*sz ->(dp sz m l)[i]?=some x ->x.length=sz/\∀j:Nat,j<sz ->x[j]?=l[i*sz+j]?
 |0,l,i,x,h,a=>by simp[dp]at a
 |m+1,l,0,x,h,a=>by
  rw[Nat.succ_mul]at h;have a:some (l.take sz)=some x:=a;obtain rfl:=JB a;refine⟨by rw[VJ];omega,λj b=>?_⟩;rw[List.getElem?_take,KX b,Nat.zero_mul,KW]
 |m+1,l,i+1,x,h,a=>by
  rw[Nat.succ_mul]at h;obtain⟨c,d⟩:=uJ sz m (l.drop sz) i x (by rw[VK];omega) a;refine⟨c,λj b=>?_⟩;rw[d j b,List.getElem?_drop,Nat.succ_mul]
  congr 1
  omega
def kE(z:List AC):Nat ->List AC
 |0=>[]
 |m+1=>z++kE z m
theorem DS(z:List AC):∀m,(kE z m).length=m*z.length
 |0=>by simp[kE]
 |m+1=>by rw[kE,JK,DS z m,Nat.succ_mul,Nat.add_comm]
def refsP(l:List (Nat×AV)):List Nat:=List.rec (motive:=λ_=>List Nat) [] (λx _ ih=>x.2.refs++ih) l
def oT(A:AS)(a:AV):Option (List (List PV)):=match a with
 | .c (.p (.sl l))=>some l
 | .c (.p (.raw (.slice none 0 0)))=>some []
 | .c (.row j)=>match look A.m j with
  |some (.rw _ _ l)=>some l
  |some (.fz l)=>some l
  |_=>none
 |_=>none
structure rE(sz bs m:Nat)(ys:List (List PV))(k:Prop):Prop where
 go:(m+ys.length)*bs<=140737488355328/\m+ys.length<=maxLen/\(∀y∈ys,y.length=sz/\∀q∈y,q.one=true)/\k
structure uK(lo hi:Option Int)(l:List (List PV))(sz:Nat)(k:Nat ->Nat ->Prop):Prop where
 go:∃p q:Nat,(match lo with
 |some x=>x=(p:Int)
 |none=>p=0)/\(match hi with
 |some x=>x=(q:Int)
 |none=>q=l.length)/\p<=q/\q<=l.length/\(∀x∈l,x.length=sz)/\k p q
def ioV:AV ->Option Int
 | .c (.p (.int _ m))=>some m
 |_=>none
section
variable(P:Program)(τ:Tau)(n:Nat)(o:Oper)(A:AS)(k:Kk)
def yD(T len:Nat)(aes:List (Nat×AV)):Prop:=match look τ.slcs T with
 |some (e,sz,_)=>match τ.zero e with
  |some z=>match Nat.beq z.length sz,Nat.ble 1 sz,Nat.ble (len*sz) 16777216,bH A (z.map ii),o.dst with
   |true,true,true,true,some d=>match Nat.ble (d+1) n,mC A (λi=>some (i*sz,sz)) (kE (z.map ii) len) aes with
    |true,some cs=>match uE A cs with
     |some ps=>k [(d,.c (.row d))] ((d,.rw e sz (dp sz len ps))::bM A (refsP aes)) [d]
     |none=>False
    |_,_=>False
   |_,_,_,_,_=>False
  |none=>False
 |none=>False
def yE(T:Nat)(a b:AV):Prop:=match look τ.slcs T,oT A b,o.dst with
 |some (e,sz,bs),some ys,some d=>match τ.zero e,Nat.ble 1 sz,Nat.ble (d+1) n with
  |some _,true,true=>match a with
   | .c (.row j)=>match look A.m j with
    |some (.rw e' sz' l)=>match Nat.beq e' e,Nat.beq sz' sz with
     |true,true=>rE sz bs l.length ys (k [(d,.c (.row d))] [(d,.rw e sz (l++ys)),(j,.dead)] [d])
     |_,_=>False
    |_=>False
   | .c (.p (.raw (.slice none 0 0)))=>rE sz bs 0 ys (k [(d,.c (.row d))] [(d,.rw e sz ys)] [d])
   | .c (.cl l)=>(0<ys.length/\∀y∈l,y.length=sz/\∀q∈y,q.one=true)/\rE sz bs l.length ys (k [(d,.c (.row d))] [(d,.rw e sz (l++ys))] [d])
   |_=>False
  |_,_,_=>False
 |_,_,_=>False
def yF(T:Nat)(a:AV)(lo hi:Option AV):Prop:=match look τ.slcs T,oT A a,lo,hi with
 |some (_,sz,_),some l,some x,none=>match ioV x with
  |some i=>uK (some i) none l sz λp q=>fin n o.dst (.c (.p (.sl ((l.take q).drop p)))) λwr=>k wr (bM A a.refs) []
  |none=>False
 |some (_,sz,_),some l,none,some y=>match ioV y with
  |some j=>uK none (some j) l sz λp q=>fin n o.dst (.c (.p (.sl ((l.take q).drop p)))) λwr=>k wr (bM A a.refs) []
  |none=>False
 |some (_,sz,_),some l,some x,some y=>match ioV x,ioV y with
  |some i,some j=>uK (some i) (some j) l sz λp q=>fin n o.dst (.c (.p (.sl ((l.take q).drop p)))) λwr=>k wr (bM A a.refs) []
  |_,_=>False
 |_,_,_,_=>False
def uL(mx:Bool)(a b:AV):Prop:=match a,b with
 | .c (.p (.int .i64 x)),.c (.p (.int .i64 y))=>out n o k (.c (.p (.int .i64 (match mx with
  |true=>max x y
  |false=>min x y))))
 |_,_=>False
end
section
variable{w0:World}{X:List Nat}{C0:Mem}{P:Program}{τ:Tau}{n:Nat}{o:Oper}{A A':AS}{k:Kk}{s s':St}{w w':World}{C C':Mem}{ρ:Nat ->Value}
theorem DT{x y:Operand}{a b:AV}{c:Call}{mx:Bool}(e:o.op= .call c)(hc:c.callee= .builtin (if mx=true then .max else .min))(g:c.args.toList=[x,y])(ha:ao A x=some a)(i:Lv A a.refs)(hb:ao A y=some b)(j:Lv A b.refs)(h:uL n o k mx a b):cv w0 X C0 P τ n o A k:=by
 have l:x∈av' o.op:=by rw[e];simp[av',g]
 have r:y∈av' o.op:=by rw[e];simp[av',g]
 unfold uL at h;split at h
 ·rename_i p q
  refine dz h λA' s w C ρ z B=>?_;obtain⟨_,v,D,t⟩:=B.op z l ha i;obtain⟨_,u,E,d⟩:=B.op z r hb j;have t:RV C (.int .i64 p) v:=t;have d:RV C (.int .i64 q) u:=d;cases t;cases d;refine⟨_,λ_=>RV.int _ _,λK H F=>?_⟩;unfold aW;cases mx with
  |true=>
   simp only[e,hc,g,if_true];exact rz D E (run (Ip w) F)
  |false=>
   simp only[e,hc,g,if_false,Bool.false_eq_true];exact rz D E (run (Iq w) F)
 ·exact h.elim
theorem DU{z:List AC}{vs:List Value}(h:RL C ρ z vs):∀m,RL C ρ (kE z m) (gI vs m)
 |0=>⟨rfl,λi c u hc a=>by simp[kE]at hc⟩
 |m+1=>by
  have d:=DU h m;refine⟨by simp[kE,gI,h.1,d.1],λi c u hc a=>?_⟩;simp only[kE,gI]at hc a;rcases Nat.lt_or_ge i z.length with b|b
  ·rw[QH b]at hc
   rw[QH (by rw[h.1];exact b)]at a;exact h.2 i c u hc a
  ·rw[QU b]at hc
   rw[QU (by rw[h.1];exact b),h.1]at a;exact d.2 _ c u hc a
theorem JS{l:List (Nat×AV)}{k:Nat}(a:k∈refsP l):∃x∈l,k∈x.2.refs:=by
 induction l with
 |nil=>cases a
 |cons y r c=>
  have a:k∈y.2.refs++refsP r:=a;rcases List.mem_append.1 a with h|h
  ·exact⟨y,Ud,h⟩
  ·obtain⟨x,d,b⟩:=c h
   exact⟨x,by simp[d],b⟩
theorem DV{l:List AC}{k:Nat}(a:k∈refsL l):∃x∈l,k∈x.refs:=by
 induction l with
 |nil=>cases a
 |cons y r c=>
  have a:k∈y.refs++refsL r:=a;rcases List.mem_append.1 a with h|h
  ·exact⟨y,Ud,h⟩
  ·obtain⟨x,d,b⟩:=c h
   exact⟨x,by simp[d],b⟩
theorem lay_mem:∀{ds cs:List AC} {o:Nat} {x:AC},x∈AO' cs o ds ->x∈cs \/x∈ds
 |[],cs,o,x,h=>.inl h
 |d::r,cs,o,x,h=>by
  rcases lay_mem (ds:=r) h with h|h
  ·rcases List.mem_or_eq_of_mem_set h with h|h
   ·exact .inl h
   ·exact .inr (by simp[h])
  ·exact .inr (by simp[h])
theorem JT{a:AV}{ds:List AC}(h:nN A a=some ds):∀k∈refsL ds,k∈a.refs:=λk b=>by
 unfold nN at h;split at h
 ·split at h
  ·obtain rfl:=JB h
   exact b
  ·cases h
 ·rename_i ps
  split at h
  ·obtain rfl:=JB h
   exfalso;obtain⟨x,d,c⟩:=DV b;obtain⟨p,_,rfl⟩:=List.mem_map.1 d;cases c
  ·cases h
 ·split at h
  ·obtain rfl:=JB h
   simpa[refsL,AV.refs]using b
  ·cases h
 ·cases h
theorem fill_refs{b:Nat ->Option (Nat×Nat)}:∀{aes:List (Nat×AV)} {cs ds:List AC},mC A b cs aes=some ds ->∀k∈refsL ds,k∈refsL cs \/k∈refsP aes
 |[],cs,ds,h=>λk d=>by
  obtain rfl:=JB h;exact .inl d
 |(i,a)::r,cs,ds,h=>λk d=>by
  simp only[mC]at h;split at h
  ·rename_i t u v l e
   split at h
   ·rcases fill_refs (aes:=r) h k d with g|g
    ·obtain⟨x,p,c⟩:=DV g
     rcases lay_mem p with j|j
     ·exact .inl (jQ j c)
     ·exact .inr (QW _ (JT e k (jQ j c)))
    ·exact .inr (QV _ g)
   ·cases h
  ·cases h
theorem DW{z:List AC}(h:refsL z=[]):∀m,refsL (kE z m)=[]
 |0=>rfl
 |m+1=>by
  have:∀a b:List AC,refsL (a++b)=refsL a++refsL b:=λa b=>by
   induction a with
   |nil=>rfl
   |cons x r c=>
    show x.refs++refsL (r++b)=(x.refs++refsL r)++refsL b;rw[c,List.append_assoc]
  rw[kE,this,h,DW h m]
  rfl
theorem J0{T len:Nat}{ps:Array (Nat×Operand)}{aes:List (Nat×AV)}(ho:o.op= .buildSlice T len ps)(O:aes.length=ps.toList.length)(has:∀(i:Nat) x,ps.toList[i]?=some x ->∃a,aes[i]?=some (x.1,a)/\ao A x.2=some a/\Lv A a.refs)(h:yD τ n o A k T len aes):cv w0 X C0 P τ n o A k:=by
 have Q:∀x∈ps.toList,x.2∈av' o.op:=λx R=>by rw[ho];exact QD (f:=(·.2)) R
 unfold yD at h;split at h
 ·rename_i e l bs hs
  split at h
  ·rename_i z hz
   split at h
   ·rename_i d h1 h2 h3 h4 hd
    have h1:=QJ h1;split at h
    ·rename_i cs hn E
     split at h
     ·rename_i S a1
      refine⟨_,_,_,h,λA' s w K kp hA hF M hK=>?_⟩;obtain⟨C,ρ,M⟩:=M;have hF:=hF d Ud;obtain⟨vs,g1,g2,g3⟩:=Rp.opp (mv:=ja' o.op) (by rw[ho];rfl) M hA Q O has;obtain⟨N,q1,q2⟩:=yB (C:=C) (ρ:=ρ) (vs:=vs) (us:=gI z len) E Uo (λi p q U hq=>⟨(g3 i p q U hq).1,λes a2=>(uG M (g3 i p q U hq).2.2 a2 (g3 i p q U hq).2.1).1⟩) (DU (uH h4) len);have a3:∀k∈refsP aes,look A'.m k=look A.m k:=λk hk=>by
       obtain⟨p,U,F⟩:=JS hk;obtain⟨i,H⟩:=JH U;have a':=aL H;exact(g3 i p vs[i] H (gE)).2.2 k F
      obtain⟨C1,a4,a5,V⟩:=M.frz (refsP aes) a3;have v:N.length=len*l:=by
       have:∀{aes:List (Nat×AV)} {cs B:List AC},mC A (λi=>some (i*l,l)) cs aes=some B ->B.length=cs.length:=λ{aes}=>by
        induction aes with
        |nil=>intro cs B h;rw[<- JB h]
        |cons p r ih=>
         intro cs B h;simp only[mC]at h;split at h
         ·split at h
          ·have ll:∀(B cs:List AC) (o:Nat),(AO' cs o B).length=cs.length:=λB=>by
            induction B with
            |nil=>intro cs o;rfl
            |cons x r ih=>intro cs o;rw[AO',ih,List.length_set]
           rw[ih h,ll]
          ·cases h
         ·cases h
       rw[q2.1,this E,DS,KF,h1]
      obtain⟨p1,p2⟩:=pb' a1;have W:S.length=len*l:=by rw[p1,<- q2.1,v]
      have I:∀(i:Nat) y u,S[i]?=some y ->N[i]?=some u ->u.oneCell'=true/\RV C1 y u:=λi y u Y Z=>by
       have H:=aL Z;have L:cs[i]?=some cs[i]:=List.getElem?_eq_getElem (by have:=q2.1;omega);obtain⟨y',a0,a6⟩:=p2 i _ L;rw[Y]at a0;obtain rfl:=JB a0;obtain⟨c1,c2⟩:=q2.2 i _ u L Z;refine⟨c1,yr a6 (c2.mono a5) λk hk=>?_⟩;have a7:=jQ (JQ L) hk;rcases fill_refs E k a7 with D|D
       ·rw[DW (DO z)]at D
        cases D
       ·exact V k D
      unfold aW;simp only[ho];refine yC g1 g2 ?_;simp only[hs,hz,h2,h3];refine fill N q1 (fD λb w' hb hB b0 F=>?_);rw[hd];unfold put;simp only[hn];obtain⟨e0,B⟩:=s;have a8:len<=maxLen:=by
       have h2:=QX h2;have h3:=QX h3;have:len<=len*l:=Nat.le_mul_of_pos_right _ Uo;simp only[maxLen];omega
      refine hK _ _ ⟨C1,jS ρ d (.slice (some ⟨b,0,none⟩) len len),a4.fresh (wr:=[(d,.c (.row d))]) (x:=.rw e l (dp l len S)) (hF.frz _) F (λg hg=>?_) ⟨dp l len N,?_,λx R=>?_,by rw[uI,uI],λi us x H R=>?_⟩ (λt a ht=>?_) λt ht=>?_⟩ rfl
      ·obtain rfl:b=g:=JB hg
       omega
      ·rw[gc,DR l len N v,uI]
       exact yb (Ci hB (by rw[hb];exact M.kp.size) v a8) (KJ _)
      ·obtain⟨i,H⟩:=JH R
       exact(uJ l len S i x W H).1
      ·obtain⟨x1,x2⟩:=uJ l len S i x W R
       obtain⟨u1,u2⟩:=uJ l len N i us v H;refine⟨u1,λj y u Y Z=>?_⟩;have hj:=aL Y;rw[x2 j Uo]at Y;rw[u2 j Uo]at Z;exact I _ y u Y Z
      ·obtain⟨rfl,rfl⟩:=bU ht
       refine⟨.slice (some ⟨b,0,none⟩) len len,?_,(gc _ _ _).symm⟩;rw[eQ,Nat.beq_refl]
      ·rw[cG]at ht
       rw[eQ];cases a9:Nat.beq d t with
       |true=>rw[a9]at ht;cases ht
       |false=>rfl
     ·exact h.elim
    ·exact h.elim
   ·exact h.elim
  ·exact h.elim
 ·exact h.elim
end
theorem DX{P:Program}{T a e d ty:TypeId}{i:TypeInfo}{b:Option Addr}{l c:Nat}{x:Value}(h:P.underlying T=some (.slice e))(g:P.underlying a=some (.slice d))(hi:P.info? e=some i)(w:World):(Builtin.append_ #[T,a] ty #[.slice b l c,x]).run P w=(Builtin.append_ #[T,T] ty #[.slice b l c,x]).run P w:=by
 unfold Builtin.append_;simp[run_underlying h,run_underlying g,sizeOf,typeInfo,hi]
theorem yG{P:Program}{τ:Tau}(E:aU P τ){T e sz bs:Nat}(V:look τ.slcs T=some (e,sz,bs)){z:List Value}(W:τ.zero e=some z)(hsz:0<sz){w:World}{k:Value ->World ->Prop}{v:Value}{n m c ty:Nat}{xs:List Value}{a:Option Addr}
  (base:Nat) (i:w.ownsRow base e sz v n xs) (d:List Value) (hl:d.length=m*sz) (t:m=0 \/∃b o,a=some ⟨b,o,none⟩/\∀j u,d[j]?=some u ->Cl w.heap b (o+j) u)
  (h1:∀u∈d,u.oneCell'=true) (r:(n+m)*bs<=140737488355328) (I:n+m<=maxLen) (x:base<=w.heap.size)
  (Q:∀B w',w'.ownsRow base e sz B (n+m) (xs++d) ->Kp v.ownBlock.toList w w' ->(B.ownBlock=v.ownBlock \/B.ownBlock=some w.heap.size) ->k B w'):EvRun P (Builtin.append_ #[T,T] ty #[v,.slice a m c]) w k:=by
 obtain⟨R,K,g,l,L⟩:=E.slcs T e sz bs V;obtain⟨p,S,y,Y,Z,F⟩:=mq E W;have:p=K:=by rw[y]at g;simpa using g
 subst this;have M:S.cells.size=sz:=by rw[Z,<- l,F];simp
 have U:∀D,a=some D ->(∀j u,d[j]?=some u ->w.cell? (D.add j)=some u) ->EvRun P (Builtin.append_ #[T,T] ty #[v,.slice a m c]) w k:=λD ha N=>by
  subst ha;obtain⟨B,w',hr,ho,hg,_,H⟩:=run_append_own_at (P:=P) w base T ty e p S sz bs R g Y l L M hsz v n xs i D m c d hl N h1 I r x;exact run hr (Q B w' ho (re hg) H)
 rcases t with rfl|⟨b,o,rfl,N⟩
 ·have O:d=[]:=List.eq_nil_of_length_eq_zero (by simpa using hl)
  subst O;cases a with
  |some D=>exact U D rfl Ud
  |none=>
   refine run (xo T ty e p R g v n xs i c) (Q v w (by simpa using i) ((Kp.refl [] w).weak Ud) (.inl rfl))
 ·refine U _ rfl λj u hj=>?_
  rw[show (⟨b,o,none⟩:Addr).add j=⟨b,o+j,none⟩ by unfold Addr.add;split<;>simp_all];exact(N j u hj).cell
theorem DY{P:Program}{τ:Tau}(r:aU P τ){T D e sz bs:Nat}{q:Nat×Nat×Nat}(L:look τ.slcs T=some (e,sz,bs))(E:look τ.slcs D=some q){z:List Value}(N:τ.zero e=some z)(hsz:0<sz){w:World}{k:Value ->World ->Prop}{v:Value}{n m c ty:Nat}{xs:List Value}{a:Option Addr}
  (base:Nat) (p:w.ownsRow base e sz v n xs) (d:List Value) (hl:d.length=m*sz) (t:m=0 \/∃b o,a=some ⟨b,o,none⟩/\∀j u,d[j]?=some u ->Cl w.heap b (o+j) u)
  (h1:∀u∈d,u.oneCell'=true) (i:(n+m)*bs<=140737488355328) (F:n+m<=maxLen) (x:base<=w.heap.size)
  (O:∀y w',w'.ownsRow base e sz y (n+m) (xs++d) ->Kp v.ownBlock.toList w w' ->(y.ownBlock=v.ownBlock \/y.ownBlock=some w.heap.size) ->k y w'):EvRun P (Builtin.append_ #[T,D] ty #[v,.slice a m c]) w k:=by
 have:=yG r L N hsz (ty:=ty) (c:=c) base p d hl t h1 i F x O;obtain⟨Q,H,I⟩:=q;obtain⟨R,S,B,_⟩:=r.slcs T e sz bs L;obtain⟨K,_⟩:=r.slcs D Q H I E;obtain⟨b,l,M,rfl⟩:∃b l M,v= .slice b l M:=by
  rcases p.2 with ⟨rfl,_⟩|⟨g,U,V,rfl,_⟩
  ·exact⟨_,_,_,rfl⟩
  ·exact⟨_,_,_,rfl⟩
 unfold EvRun at this ⊢;obtain⟨y,w',h1,W⟩:=this;exact⟨y,w',by rw[DX R K B];exact h1,W⟩
theorem J1{P:Program}{τ:Tau}(Q:aU P τ){T R e ty:Nat}(hs:look τ.slcs T=some (e,1,8))(hz:τ.zero e=some [iV 0])(H:P.underlying R=some (.int .i64)){w:World}{K:Value ->World ->Prop}{v:Value}{n:Nat}{xs:List Value}(lo:Nat)(t:w.ownsRow lo e 1 v n xs)(k:Nat)(h0:0<k)(hk:k<=100)(hl:n<=1000000)(I:lo<=w.heap.size)
  (hK:∀v' w',w'.ownsRow lo e 1 v' (n+k) (xs++List.replicate k (iV 0)) ->Kp v.ownBlock.toList w w' ->(v'.ownBlock=v.ownBlock \/v'.ownBlock=some w.heap.size) ->K v' w'):EvRun P (Builtin.append_ #[T,R] ty #[v,iV (k:Int)]) w K:=by
 obtain⟨S,a5,F,x,y⟩:=Q.slcs T e 1 8 hs;obtain⟨a,E,c,hv,U,a9⟩:=mq Q hz;have:a=a5:=by rw[c]at F;simpa using F
 subst this;have V:E.cells.size=1:=by rw[U];rfl
 have W:(Builtin.zeroCells E.cells k).toList=List.replicate k (iV 0):=by
  simp only[Builtin.zeroCells,V,Nat.mul_one];rw[Array.toList_map,Array.toList_range];apply List.ext_getElem
  ·simp
  ·intro i h1 h2
   simp only[List.getElem_map,List.getElem_replicate,Nat.mod_one];rw[U]
   rfl
 have Y:Builtin.zeroCells E.cells k=(List.replicate k (iV 0)).toArray:=by
  apply Array.ext';rw[W]
 have d:=t.1;rw[Nat.mul_one]at d;have z:∀(l:Nat),l<n+k ->(w.drew.alloc (.cells (xs.toArray++Builtin.zeroCells E.cells k++Builtin.zeroCells E.cells (grownCap w (n+k) l e-(n+k))) e)).ownsRow lo e 1
    (.slice (some ⟨w.heap.size,0,none⟩) (n+k) (grownCap w (n+k) l e)) (n+k) (xs++List.replicate k (iV 0))/\
   Kp v.ownBlock.toList w (w.drew.alloc (.cells (xs.toArray++Builtin.zeroCells E.cells k++Builtin.zeroCells E.cells (grownCap w (n+k) l e-(n+k))) e)):=by
  intro l ho;have a6:=grownCap_ge w (n+k) l e;have L:grownCap w (n+k) l e<=maxLen:=grownCap_le_maxLen w (n+k) l e (by unfold maxLen;omega);refine⟨⟨by simp[d],.inr ⟨w.heap.size,_,_,rfl,I,heap_alloc_new w.drew _,a6,L,?_,?_⟩⟩,⟨rfl,rfl,rfl,by
   show w.heap.size<=(w.heap.push _).size;simp,λb hb _=>by
   show (w.heap.push _)[b]?=_;rw[Array.getElem?_push_lt hb];simp[hb]⟩⟩
  ·simp only[Array.size_append,List.size_toArray,size_zeroCells,V,d,Nat.mul_one]
   omega
  ·rw[Array.toList_append,Array.toList_append,W]
   have:(xs++List.replicate k (iV 0)).length=(n+k)*1:=by simp[d]
   rw[<- this];exact List.take_left
 rcases t.2 with ⟨rfl,M⟩|⟨g,p,B,rfl,a7,hg,a',L,Z,N⟩
 ·have hx:xs=[]:=List.eq_nil_of_length_eq_zero (by rw[d,M])
  have h:=Lib.run_append_grow_zeros (P:=P) w T R ty e a E .i64 .i64 S H c hv none 0 0 [] (run_firstCells_none (w:=w.drew) a.size 0 0 0) k h0 Uo Uo Uk (by rw[y];omega)
   (by rw[y];exact growslice_fits Uo Uo)
  have r:=z 0 Uo;rw[M,hx]at r;rw[M,hx]at hK;exact run h (hK _ _ r.1 r.2 (.inr rfl))
 ·by_cases D:n+k<=p
  ·have a0:(Builtin.append_ #[T,R] ty #[.slice (some ⟨g,0,none⟩) n p,iV (k:Int)]).run P w= .ok (.slice (some ⟨g,0,none⟩) (n+k) p) (w.setRow g (B.toList.take n++List.replicate k (iV 0)++B.toList.drop (n+k)).toArray):=by
    have a1:k≠0:=Uo
    have hw:IntKind.i64.wrap (k:Int)=k:=by rw[IntKind.wrap_i64];omega
    have a2:¬ (281474976710656<(k:Int)*(a.bytes:Int)):=by rw[y];omega
    have a3:¬ ((k:Int)<0):=Uo
    have a8:¬ (k*a.size=0):=Nat.mul_ne_zero a1 Uo;have a4:=run_storeCells_at P g n e (List.replicate k (iV 0)) 0 B w hg (by simp;rw[Z];omega) (λu S=>by rw[(List.mem_replicate.1 S).2];rfl);simp only[Nat.add_zero,List.length_replicate]at a4;simp[Builtin.append_,run_underlying S,run_underlying H,sizeOf,typeInfo,zeroValue,c,hv,asInt,asIntOf,hw,a3,a2,a8,D,Y,x,Addr.add_lit,a1,a4]
   refine run a0 (hK _ _ ?_ ?_ (.inl rfl))
   ·refine⟨by simp[d],.inr ⟨g,p,_,rfl,a7,setRow_heap w g B _ e _ hg,D,L,?_,?_⟩⟩
    ·simp only[List.size_toArray,JK,VJ,VK,Array.length_toList,List.length_replicate,Z]
     omega
    ·have ht:B.toList.take n=xs:=by simpa using N
     rw[ht];have:(xs++List.replicate k (iV 0)).length=(n+k)*1:=by simp[d]
     rw[<- this];exact List.take_left
   ·exact⟨rfl,rfl,rfl,Ud,λb _ hb=>setRow_other w g b _ (λe=>hb (by simp[Value.ownBlock,e]))⟩
  ·have O:∀j u,xs[j]?=some u ->w.cell? ((⟨g,0,none⟩:Addr).add j)=some u:=t.cells (g:=g) rfl
   have hf:=run_firstCells_some (P:=P) w.drew a.size n ⟨g,0,none⟩ n p xs (by rw[d,x];omega) (by simpa using O);have h:=Lib.run_append_grow_zeros (P:=P) w T R ty e a E .i64 .i64 S H c hv (some ⟨g,0,none⟩) n p xs hf k h0 Uo Uo Uo (by rw[y];omega)
    (by rw[y];exact growslice_fits Uo Uo)
   have r:=z p Uo;exact run h (hK _ _ r.1 r.2 (.inr rfl))
section
variable{w0:World}{X:List Nat}{C0:Mem}{P:Program}{τ:Tau}{n:Nat}{o:Oper}{A A':AS}{k:Kk}{s s':St}{w w':World}{C C':Mem}{ρ:Nat ->Value}
theorem yH(h:Rp w0 X C0 A' s w C ρ){a:AV}(hA:∀k∈a.refs,look A'.m k=look A.m k){ys:List (List PV)}(he:oT A a=some ys){sz:Nat}(V:∀y∈ys,y.length=sz/\∀q∈y,q.one=true){v:Value}(H:RA C ρ a v):
  ∃(css:List (List Value)) (I:Option Addr) (c:Nat),v= .slice I ys.length c/\css.length=ys.length/\(∀(i:Nat) (us:List Value) x,css[i]?=some us ->ys[i]?=some x ->us.length=sz/\∀(j:Nat) y u,x[j]?=some y ->us[j]?=some u ->u.oneCell'=true/\RV C y u)/\
   (ys.length=0 \/∃b o,I=some ⟨b,o,none⟩/\∀j u,css.flatten[j]?=some u ->Cl w.heap b (o+j) u):=by
 have t:∀l:List (List PV),l=ys ->RV C (.sl l) v ->∃(css:List (List Value)) (I:Option Addr) (c:Nat),v= .slice I ys.length c/\css.length=ys.length/\(∀(i:Nat) (us:List Value) x,css[i]?=some us ->ys[i]?=some x ->us.length=sz/\∀(j:Nat) y u,x[j]?=some y ->us[j]?=some u ->u.oneCell'=true/\RV C y u)/\
   (ys.length=0 \/∃b o,I=some ⟨b,o,none⟩/\∀j u,css.flatten[j]?=some u ->Cl w.heap b (o+j) u):=λl e L=>by
  subst e;cases L with
  |nil a c=>exact⟨[],a,c,rfl,rfl,λi us x p r=>by simp at p,.inl rfl⟩
  |sl _ d b o c f S h2 W h4=>
   by_cases h0:l.length=0
   ·have e:l=[]:=List.length_eq_zero_iff.1 h0
    subst e;exact⟨[],_,c,rfl,rfl,λi us x p r=>by simp at p,.inl rfl⟩
   ·have e:d=sz:=by
     have r:=List.getElem_mem (l:=l) (n:=0) Uo;have:=S _ r;have:=(V _ r).1;omega
    subst e
    let css:List (List Value):=(List.range l.length).map λi=>(List.range d).map λj=>f i j
    have z:∀(i:Nat) us,css[i]?=some us ->i<l.length/\us=(List.range d).map λj=>f i j:=λi us p=>by
     simp only[css,JX]at p;rcases Nat.lt_or_ge i l.length with h|h
     ·rw[List.getElem?_range h]at p
      exact⟨h,(JB p).symm⟩
     ·rw[QF (by simpa using h)]at p;cases p
    have K:∀(i:Nat) (us:List Value) x,css[i]?=some us ->l[i]?=some x ->us.length=d/\∀(j:Nat) y u,x[j]?=some y ->us[j]?=some u ->u.oneCell'=true/\RV C y u:=λi us x p r=>by
     obtain⟨_,rfl⟩:=z i us p;refine⟨Ud,λj y u D M=>?_⟩;rw[JX]at M;rcases Nat.lt_or_ge j d with h|h
     ·rw[List.getElem?_range h]at M
      obtain rfl:=JB M;have L:=h4 i j x y r D;exact⟨RV.one L ((V x (JQ r)).2 y (JQ D)),L⟩
     ·rw[QF (by simpa using h)]at M;cases M
    refine⟨css,_,c,rfl,by simp[css],K,.inr ⟨b,o,rfl,λj u U=>?_⟩⟩;have B:∀us∈css,us.length=d:=λus E=>by
     obtain⟨q,hq⟩:=JH E;obtain⟨_,rfl⟩:=z q us hq;simp
    have Y:=pC css B;have N:css.length=l.length:=by simp[css]
    have a2:=aL U;have F:0<d:=by
     rcases Nat.eq_zero_or_pos d with e|e
     ·rw[e,Nat.mul_zero]at Y;omega
     ·exact e
    have p:j/d<css.length:=(Nat.div_lt_iff_lt_mul F).2 Uo;have L:=Nat.mod_lt j F;have E:css[j/d]?=some css[j/d]:=List.getElem?_eq_getElem p;obtain⟨_,e1⟩:=z _ _ E;have a1:=B _ (List.getElem_mem p);have O:(css[j/d])[j%d]?=some (css[j/d])[j%d]:=gE;have Z:=pD css B (j/d) (j%d) _ _ E O;have Q:=Nat.div_add_mod' j d;rw[Q,U]at Z;have R:u=f (j/d) (j%d):=by
     have e2:(css[j/d])[j%d]?=some (f (j/d) (j%d)):=by
      rw[e1,JX,List.getElem?_range L]
      rfl
     rw[O]at e2;rw[JB Z,JB e2]
    have r:l[j/d]?=some l[j/d]:=gE;have a3:=S _ (JQ r);have D:(l[j/d])[j%d]?=some (l[j/d])[j%d]:=gE;have:=h.sub _ _ _ (W _ _ _ _ r D);rw[Nat.add_assoc,Q,<- R]at this;exact this
 unfold oT at he;split at he
 ·rename_i l
  exact t l (JB he) H
 ·obtain rfl:=JB he
  have H:RV C (.raw (.slice none 0 0)) v:=H;cases H;exact⟨[],none,0,rfl,rfl,λi us x p r=>by simp at p,.inl rfl⟩
 ·rename_i j
  have H:v=ρ j:=H;subst H;split at he
  ·rename_i e d l hm
   obtain rfl:=JB he;obtain⟨css,ho,S,h2,W⟩:=h.ent j _ (by rw[hA j (by simp[AV.refs,AC.refs])];exact hm);obtain⟨I,a0,e,_,_,hb⟩:=pB ho.1;refine⟨css,I,a0,e,h2,λi us x p r=>?_,?_⟩
   ·have:=W i us x p r
    have h4:=S x (JQ r);have Z:=(V x (JQ r)).1;exact⟨Uo,this.2⟩
   ·rcases hb with hb|⟨g,hg,_,_,N⟩
    ·exact .inl hb
    ·exact .inr ⟨g,0,hg,λj u U=>by rw[KW];exact N j u U⟩
  ·rename_i l hm
   have:=h.ent j _ (by rw[hA j (by simp[AV.refs,AC.refs])];exact hm);exact t l (JB he) this
  ·cases he
 ·cases he
theorem yI{d e sz:Nat}{l ys:List (List PV)}{wm:List (Nat×SE)}(hd:o.dst=some d)(hn:Nat.ble (d+1) n=true)(hk:k [(d,.c (.row d))] ((d,.rw e sz (l++ys))::wm) [d])(a7:∀y∈ys,y.length=sz)(H:∀j x,look wm j=some x ->x= .dead)
  (a1:∀A' s w C ρ,Agr (ja' o.op) A A' (av' o.op) ->Rp w0 X C0 A' s w C ρ ->∃(v:Value) (css I:List (List Value)),(∀x∈l,x.length=sz)/\css.length=l.length/\
   (∀(i:Nat) (us:List Value) x,css[i]?=some us ->l[i]?=some x ->us.length=sz/\∀(j:Nat) y u,x[j]?=some y ->us[j]?=some u ->u.oneCell'=true/\RV C y u)/\(∀g,v.ownBlock=some g ->∃j y,look wm j=some .dead/\look A'.m j=some y/\y.mut=true/\blk (ρ j)=some g)/\
   I.length=ys.length/\(∀(i:Nat) (us:List Value) x,I[i]?=some us ->ys[i]?=some x ->us.length=sz/\∀(j:Nat) y u,x[j]?=some y ->us[j]?=some u ->u.oneCell'=true/\RV C y u)/\
   ∀(K:St ->World ->Prop) (kp:List PanicEntry ->St ->World ->Prop),(∀V w',w'.ownsRow 0 e sz V (l.length+ys.length) (css.flatten++I.flatten) ->Kp v.ownBlock.toList w w' ->(V.ownBlock=v.ownBlock \/∀g,V.ownBlock=some g ->w.heap.size<=g) ->put n s o.dst V λs'=>K s' w') ->aW P τ n o s w K kp):cv w0 X C0 P τ n o A k:=by
 refine⟨_,_,_,hk,λA' s w K kp hA hF F hK=>?_⟩;obtain⟨C,ρ,F⟩:=F;have hF:=hF d Ud;obtain⟨v,css,I,a8,a2,a9,r,a',a3,b0⟩:=a1 A' s w C ρ hA F;refine b0 _ _ λV w' W a4 D=>?_;rw[hd];unfold put;simp only[hn];obtain⟨e0,ds⟩:=s;have a5:=nJ W;have b6:look wm d=none \/look wm d=some .dead:=by
  cases b:look wm d with
  |none=>exact .inl rfl
  |some q=>exact .inr (by rw[H d q b])
 refine hK _ _ ⟨C,jS ρ d V,F.step (wr:=[(d,.c (.row d))]) (wm:=(d,.rw e sz (l++ys))::wm) (s':=⟨(d,V)::e0,ds⟩) [d] (λq b=>rA (by simpa using b)) (λq b=>(List.mem_singleton.1 b).symm▸hF) (λq b=>⟨.rw e sz (l++ys),by rw[List.mem_singleton.1 b];exact mA d _ wm⟩) (λq x b E=>?_) a4 (λz hz=>?_) (λ_ _ _ h=>h)
  (F.sub.kp a4 λg o0 v0 b1 B=>?_) (λ_ _ _ h=>.inl ⟨_,_,h⟩) (λq x b=>?_) (λq x g b hm B=>?_) (λt a ht _=>?_) λt ht=>?_⟩ rfl
 ·rw[cG]at b
  cases p:Nat.beq d q with
  |true=>exact .inl (by simp[QJ p])
  |false=>
   rw[p]at b;rw[H q x b]at E;cases E
 ·have hz:v.ownBlock=some z:=by simpa using hz
  obtain⟨j,y,g1,O,L,Q⟩:=r z hz;have R:Nat.beq d j=false:=by
   cases b2:Nat.beq d j with
   |true=>
    have:=hF.un y (QJ b2▸O);rw[this]at L;cases L
   |false=>rfl
  exact⟨j,.dead,y,by rw[cG,R];exact g1,O,L,Q⟩
 ·have B:v.ownBlock=some g:=by simpa using B
  obtain⟨j,y,g1,O,L,Q⟩:=r g B;exact F.off j y g g o0 v0 O L Q b1 rfl
 ·rw[cG]at b
  cases p:Nat.beq d q with
  |true=>
   rw[p]at b;obtain rfl:=JB b;obtain rfl:=QJ p;refine⟨css++I,?_,λx E=>?_,by simp[a2,a'],λi us x Y E=>?_⟩
   ·refine⟨by rw[gc,JK,List.flatten_append];exact W,λg B=>?_⟩
    rw[gc,a5]at B;rcases D with S|S
    ·rw[S]at B
     obtain⟨j,y,g1,O,L,Q⟩:=r g B;exact(F.blk_lt O L Q).2
    ·exact .inl (KQ F.kp.size (S g B))
   ·rcases List.mem_append.1 E with E|E
    ·exact a8 x E
    ·exact a7 x E
   ·rcases Nat.lt_or_ge i l.length with Z|Z
    ·rw[QH Uo]at Y
     rw[QH Z]at E;exact a9 i us x Y E
    ·rw[QU Uo,a2]at Y
     rw[QU Z]at E;exact a3 _ us x Y E
  |false=>
   rw[p]at b;rw[H q x b];exact VQ
 ·rw[cG]at b
  cases p:Nat.beq d q with
  |true=>
   rw[p]at b;obtain rfl:=QJ p;rw[gc,a5]at B;refine⟨λi y R Y U a0=>?_,λb' o' b3 a6 S=>?_⟩
   ·have Y:look (((d,SE.rw e sz (l++ys))::wm)++A'.m) i=some y:=Y
    rcases look_app_some Y with h2|⟨M,h2⟩
    ·rw[cG]at h2
     cases N:Nat.beq d i with
     |true=>exact R (QJ N).symm
     |false=>
      rw[N]at h2;rw[H i y h2]at U;cases U
    ·rw[rA R]at a0
     rcases D with S|S
     ·rw[S]at B
      obtain⟨j,y',g1,O,L,Q⟩:=r g B;have b4:i≠j:=λe2=>by
       subst e2;rw[cG]at M;cases N:Nat.beq d i with
       |true=>rw[N]at M;cases M
       |false=>rw[N,g1]at M;cases M
      exact F.sep i j y y' g b4 h2 U O L a0 Q
     ·have:=S g B
      have:=(F.blk_lt h2 U a0).1;omega
   ·rcases D with e2|e2
    ·rw[e2]at B
     obtain⟨j,y',g1,O,L,Q⟩:=r g B;exact F.off j y' g b' o' b3 O L Q a6 S
    ·have:=e2 g B
     have:=(F.sub _ _ _ a6).lt;omega
  |false=>
   rw[p]at b;rw[H q x b]at hm;cases hm
 ·obtain⟨rfl,rfl⟩:=bU ht
  refine⟨V,?_,(gc _ _ _).symm⟩;rw[eQ,Nat.beq_refl]
 ·rw[cG]at ht
  rw[eQ];cases b5:Nat.beq d t with
  |true=>rw[b5]at ht;cases ht
  |false=>rfl
theorem yJ{x y:Option Nat}{m:Nat}(h:x=y \/x=some m):x=y \/∀g,x=some g ->m<=g:=h.imp id λe g a=>by
 rw[e]at a;exact Nat.le_of_eq (JB a)
theorem J2{T T':Nat}{q:Nat×Nat×Nat}{x y:Operand}{a b:AV}{c:Call}(O:aU P τ)(ho:o.op= .call c)(hc:c.callee= .builtin .append)(hx:c.args.toList=[x,y])(hT:c.argTypes= #[T,T'])(a6:look τ.slcs T'=some q)(ha:ao A x=some a)(a7:Lv A a.refs)(hb:ao A y=some b)(b9:Lv A b.refs)(h:yE τ n o A k T a b):cv w0 X C0 P τ n o A k:=by
 have a0:x∈av' o.op:=by rw[ho];simp[av',hx]
 have a1:y∈av' o.op:=by rw[ho];simp[av',hx]
 unfold yE at h;split at h
 ·rename_i e Q bs Z d hs b' hd
  split at h
  ·rename_i z hz h1 hn
   have a8:=QX h1;have a4:∀(l:List (List PV)) (wm:List (Nat×SE)),(l.length+Z.length)*bs<=140737488355328 ->l.length+Z.length<=maxLen ->(∀y∈Z,y.length=Q/\∀q∈y,q.one=true) ->k [(d,.c (.row d))] ((d,.rw e Q (l++Z))::wm) [d] ->
     (∀j x,look wm j=some x ->x= .dead) ->(∀A' s w C ρ,Agr (ja' o.op) A A' (av' o.op) ->Rp w0 X C0 A' s w C ρ ->∃(v:Value) (r:List (List Value)),ev s.e x=some v/\w.ownsRow 0 e Q v l.length r.flatten/\(∀x∈l,x.length=Q)/\r.length=l.length/\
      (∀(i:Nat) (B:List Value) x,r[i]?=some B ->l[i]?=some x ->B.length=Q/\∀(j:Nat) y u,x[j]?=some y ->B[j]?=some u ->u.oneCell'=true/\RV C y u)/\(∀g,v.ownBlock=some g ->∃j y,look wm j=some .dead/\look A'.m j=some y/\y.mut=true/\blk (ρ j)=some g)) ->cv w0 X C0 P τ n o A k:=λl wm c' d' a9 hk e0 c0=>by
    refine yI hd hn hk (λy hy=>(a9 y hy).1) e0 λA' s w C ρ N L=>?_;obtain⟨v,r,hv,e2,e4,R,a2,c1⟩:=c0 A' s w C ρ N L;obtain⟨_,u,S,a'⟩:=L.op N a1 hb b9;obtain⟨D,ad,b4,rfl,F,t,H⟩:=yH L (N.m (pQ ho hc) y a1 b hb) b' a9 a';have U:∀B∈D,B.length=Q:=λB E=>by
     obtain⟨q,hq⟩:=JH E;have e5:=aL hq;exact(t q B _ hq (gE)).1
    have c2:∀u∈D.flatten,u.oneCell'=true:=λu S=>by
     obtain⟨B,E,S⟩:=List.mem_flatten.1 S;obtain⟨i,M⟩:=JH E;obtain⟨j,hj⟩:=JH S;have e6:=aL M;have e7:=aL hj;have V:Z[i]?=some Z[i]:=gE;have e8:=(a9 _ (JQ V)).1;have e9:=U B E;exact((t i B _ M V).2 j _ u (gE) hj).1
    refine⟨v,r,D,e4,R,a2,c1,F,t,λK kp hK=>?_⟩;unfold aW;simp only[ho,hc,hx];refine rz hv S ?_;simp only[hT];exact DY O hs a6 hz a8 0 e2 D.flatten (by rw[pC D U,F]) H c2 c' d' (KV _) λv' w' q1 q2 q3=>hK v' w' q1 q2 (yJ q3)
   split at h
   ·rename_i j
    split at h
    ·rename_i e' c3 l hm
     split at h
     ·rename_i b5 b6
      have b5:=QJ b5;have b6:=QJ b6;subst b5;subst b6
      replace h:=h.go
      obtain⟨b1,b2,b3,h⟩:=h;refine a4 l [(j,.dead)] b1 b2 b3 h (λi x M=>(bU M).2) λA' s w C ρ N L=>?_;have c4:=N.at (pQ ho hc) a0 ha (by simp[AV.refs,AC.refs]) hm;obtain⟨_,v,hv,hr⟩:=L.op N a0 ha a7;have hr:v=ρ j:=hr;subst hr;obtain⟨r,g1,g2,g3,g4⟩:=L.ent j _ c4;exact⟨ρ j,r,hv,g1.1,g2,g3,g4,λg hg=>⟨j,_,mA _ _ _,c4,rfl,by rw[nJ g1.1];exact hg⟩⟩
     ·exact h.elim
    ·exact h.elim
   ·replace h:=h.go
    obtain⟨b1,b2,b3,h⟩:=h;refine a4 [] [] (by simpa using b1) (by simpa using b2) b3 (by simpa using h) (λi x M=>by cases M) λA' s w C ρ N L=>?_;obtain⟨_,v,hv,hr⟩:=L.op N a0 ha a7;have hr:RV C (.raw (.slice none 0 0)) v:=hr;cases hr;exact⟨_,[],hv,⟨Ud,.inl ⟨rfl,rfl⟩⟩,(λx hx=>by cases hx),rfl,(λi B x M hx=>by simp at M),λg hg=>by cases hg⟩
   ·rename_i l
    obtain⟨⟨h0,hl⟩,h⟩:=h
    replace h:=h.go
    obtain⟨b1,b2,b3,h⟩:=h;refine yI (wm:=[]) hd hn h (λy hy=>(b3 y hy).1) (λi x M=>by cases M) λA' s w C ρ N L=>?_;obtain⟨_,v,hv,hr,av,rfl⟩:=L.op N a0 ha a7;obtain⟨_,u,S,a'⟩:=L.op N a1 hb b9;obtain⟨D,ad,b4,rfl,F,t,H⟩:=yH L (N.m (pQ ho hc) y a1 b hb) b' b3 a';obtain⟨r,h7,h6,e1,R,a2,W⟩:=yH (A:=A) (a:=.c (.p (.sl l))) L (λk hk=>by cases hk) rfl hl hr;injection e1 with e1 _ _
    subst e1;have b7:∀{cs:List (List Value)} {ls:List (List PV)},cs.length=ls.length ->(∀(i:Nat) (B:List Value) x,cs[i]?=some B ->ls[i]?=some x ->B.length=Q/\∀(j:Nat) y u,x[j]?=some y ->B[j]?=some u ->u.oneCell'=true/\RV C y u) ->∀B∈cs,B.length=Q:=λhe hh B E=>by
     obtain⟨q,hq⟩:=JH E;have e5:=aL hq;exact(hh q B _ hq (gE)).1
    have f1:=pC r (b7 R a2);have f2:=pC D (b7 F t);rw[R]at f1;rw[F]at f2;have c5:∀{b o:Nat} {ns:List Value},(∀j u,ns[j]?=some u ->Cl w.heap b (o+j) u) ->∀j u,ns[j]?=some u ->w.cell? ((⟨b,o,none⟩:Addr).add j)=some u:=λ{b1 o1 ns} hh j u hj=>by
     rw[show (⟨b1,o1,none⟩:Addr).add j=⟨b1,o1+j,none⟩ by unfold Addr.add;split<;>simp_all];exact(hh j u hj).cell
    refine⟨.slice none 0 0,r,D,λx hx=>(hl x hx).1,R,a2,(λg hg=>by cases hg),F,t,λK kp hK=>?_⟩;unfold aW;simp only[ho,hc,hx];refine rz hv S ?_;simp only[hT];obtain⟨e',c3,f'⟩:=q;obtain⟨c6,g0,I,Y,g5⟩:=O.slcs T e Q bs hs;obtain⟨g6,_⟩:=O.slcs T' e' c3 f' a6;obtain⟨a5,v0,b8,g7,g8,c7⟩:=mq O hz;have:a5=g0:=by rw[b8]at I;simpa using I
    subst this;have g9:v0.cells.size=Q:=by rw[g8,<- Y,c7];simp
    obtain⟨b0,o0,rfl,c8⟩:=H.resolve_left Uo;have go:∀bd,(∀j u,r.flatten[j]?=some u ->w.cell? (Addr.add bd j)=some u) ->EvRun P (Builtin.append_ #[T,T'] o.type #[.slice (some bd) l.length l.length,.slice (some ⟨b0,o0,none⟩) Z.length b4]) w λv w'=>put n s o.dst v λs'=>K s' w':=λbd h2=>by
     obtain⟨v',w',h3,c9,hg⟩:=run_append_arg_grows (P:=P) w T o.type e a5 v0 Q bs c6 I g7 Y g5 g9 a8 bd l.length l.length r.flatten f1 h2 ⟨b0,o0,none⟩ Z.length b4 D.flatten f2 (c5 c8) Uo b2 b1;unfold EvRun;refine⟨v',w',by rw[DX c6 g6 I];exact h3,hK v' w' (DH c9 (KV _)) (re hg) (.inr λg a3=>?_)⟩;rcases c9.2 with ⟨e3,_⟩|⟨g',_,_,e3,h5,_⟩
     ·rw[e3]at a3;cases a3
     ·rw[e3]at a3
      obtain rfl:g'=g:=JB a3;exact h5
    cases av with
    |some bd=>
     rcases W with h5|⟨h8,h9,e3,h4⟩
     ·have:r=[]:=List.length_eq_zero_iff.1 Uo
      exact go bd λj u hj=>by rw[this]at hj;simp at hj
     ·obtain rfl:=JB e3
      exact go _ (c5 h4)
    |none=>
     have h5:l.length=0:=W.resolve_right λ⟨_,_,e3,_⟩=>by cases e3
     have:r=[]:=List.length_eq_zero_iff.1 Uo;subst this;rw[h5];rw[h5]at hK b1 b2;exact DY O hs a6 hz a8 0 (v:=.slice none 0 0) (n:=0) (xs:=[]) ⟨Ud,.inl ⟨rfl,rfl⟩⟩ D.flatten f2 (.inr ⟨b0,o0,rfl,c8⟩) (λu S=>by
      obtain⟨B,E,S⟩:=List.mem_flatten.1 S;obtain⟨i,M⟩:=JH E;obtain⟨j,hj⟩:=JH S;have e6:=aL M;have e7:=aL hj;have V:Z[i]?=some Z[i]:=gE;have e8:=(b3 _ (JQ V)).1;have e9:=b7 F t B E;exact((t i B _ M V).2 j _ u (gE) hj).1) b1 b2 (KV _) λv' w' q1 q2 q3=>hK v' w' q1 q2 (yJ q3)
   ·exact h.elim
  ·exact h.elim
 ·exact h.elim
structure rF(l:List (List PV))(m:Int)(k:Nat ->Prop):Prop where
 go:∃i:Nat,m=i/\0<i/\i<=100/\l.length<=1000000/\k i
def yK(τ:Tau)(n:Nat)(o:Oper)(A:AS)(k:Kk)(T T':Nat)(a b:AV):Prop:=match look τ.slcs T,look τ.ones T',o.dst with
 |some (e,1,8),some c,some d=>match τ.zero e,kJ' c,Nat.ble (d+1) n with
  |some [.int .i64 0],some .i64,true=>match a,b with
   | .c (.row j),.c (.p (.int .i64 m))=>match look A.m j with
    |some (.rw e' 1 l)=>match Nat.beq e' e with
     |true=>rF l m λi=>k [(d,.c (.row d))] [(d,.rw e 1 (l++List.replicate i [.int .i64 0])),(j,.dead)] [d]
     |false=>False
    |_=>False
   |_,_=>False
  |_,_,_=>False
 |_,_,_=>False
theorem J3{T E:Nat}{x y:Operand}{a b:AV}{c:Call}(r:aU P τ)(D:o.op= .call c)(hc:c.callee= .builtin .append)(F:c.args.toList=[x,y])(Z:c.argTypes= #[T,E])(ha:ao A x=some a)(H:Lv A a.refs)(hb:ao A y=some b)(I:Lv A b.refs)(h:yK τ n o A k T E a b):cv w0 X C0 P τ n o A k:=by
 have t:x∈av' o.op:=by rw[D];simp[av',F]
 have L:y∈av' o.op:=by rw[D];simp[av',F]
 unfold yK at h;split at h
 ·rename_i e c0 d hs z hd
  split at h
  ·rename_i hz M hn
   obtain⟨dt,a0,N,_,_,_,_,_,_,hj⟩:=r.ones E c0 z;obtain rfl:=hj _ M;split at h
   ·rename_i j m
    split at h
    ·rename_i e' l hm
     split at h
     ·rename_i he
      obtain rfl:=QJ he;obtain⟨i,rfl,i0,i1,hl,h⟩:=h.go;refine yI hd hn h (λy O=>by rw[(List.mem_replicate.1 O).2];rfl) (λi x Q=>(bU Q).2) λA' s w C ρ R S=>?_;have B:=R.at (pQ D hc) t ha (by simp[AV.refs,AC.refs]) hm;obtain⟨_,v,hv,U⟩:=S.op R t ha H;have U:v=ρ j:=U;subst U;obtain⟨_,u,hu,p⟩:=S.op R L hb I;have p:RV C (.int .i64 i) u:=p;cases p;obtain⟨V,Y,g2,g3,g4⟩:=S.ent j _ B;refine⟨ρ j,V,List.replicate i [.int .i64 0],g2,g3,g4,λg hg=>⟨j,_,mA _ _ _,B,rfl,by rw[nJ Y.1];exact hg⟩,Ud,λq us y Q O=>?_,λK kp hK=>?_⟩
      ·obtain rfl:=(List.mem_replicate.1 (JQ Q)).2
       obtain rfl:=(List.mem_replicate.1 (JQ O)).2;refine⟨rfl,λj y u z W=>?_⟩
       match j,z,W with
       |0,rfl,rfl=>exact⟨rfl,.int _ _⟩
      ·unfold aW
       simp only[D,hc,F];refine rz hv hu ?_;simp only[Z];refine J1 r hs hz N 0 Y.1 i i0 i1 hl (KV _) λv' w' z W h3=>hK v' w' ?_ W (yJ h3);rw[List.length_replicate,List.flatten_replicate_singleton];exact z
     ·exact h.elim
    ·exact h.elim
   ·exact h.elim
  ·exact h.elim
 ·exact h.elim
theorem RV.cut{l:List (List PV)}{T e sz bs:Nat}(M:look τ.slcs T=some (e,sz,bs)){t:Option Addr}{c p q:Nat}(h:RV C (.sl l) (.slice t l.length c))(hsz:∀x∈l,x.length=sz)(h1:p<=q)(h2:q<=l.length):RV C (.sl ((l.take q).drop p)) (sliced t p q c sz):=by
 have B:((l.take q).drop p).length=q-p:=by rw[VK,VJ];omega
 unfold sliced
 by_cases D:q-p=0
 ·have e:(l.take q).drop p=[]:=List.length_eq_zero_iff.1 Uo
  rw[e,D];exact .nil _ _
 ·generalize E:Value.slice t l.length c=v at h
  cases h with
  |nil a F=>simp at h2;omega
  |sl _ r b o F f z N H I=>
   injection E with K _ L
   subst K L;have d:=List.getElem_mem (l:=l) (n:=0) Uo;have e:r=sz:=by
    have:=z _ d;have:=hsz _ d;omega
   subst e;rw[KY Uo,Option.map_some,pA,<- B];have g:∀(i:Nat) x,((l.take q).drop p)[i]?=some x ->l[p+i]?=some x:=λi x d=>by
    rw[List.getElem?_drop,List.getElem?_take]at d;split at d
    ·exact d
    ·cases d
   refine .sl _ r b (o+p*r) _ (λi j=>f (p+i) j) (λx d=>z x (List.mem_of_mem_take (List.mem_of_mem_drop d))) Uo (λi j x y d u=>?_) λi j x y d u=>I _ _ x y (g i x d) u;have:=H _ _ x y (g i x d) u
   rwa [Nat.add_mul,<- Nat.add_assoc]at this
theorem uM{a:AV}{i:Int}(h:ioV a=some i):∃j,a= .c (.p (.int j i)):=by
 unfold ioV at h;split at h
 ·rename_i j m
  obtain rfl:=JB h;exact⟨j,rfl⟩
 ·cases h
theorem J4(h:Rp w0 X C0 A' s w C ρ){a:AV}(p:∀k∈a.refs,look A'.m k=look A.m k){l:List (List PV)}(he:oT A a=some l){v:Value}(c:RA C ρ a v):∃C',Rp w0 X C0 (A'.upd [] (bM A a.refs)) s w C' ρ/\(∀b o v,C b o v ->C' b o v)/\RV C' (.sl l) v:=by
 obtain⟨C',r,d,i⟩:=h.frz a.refs p;refine⟨C',r,d,?_⟩;unfold oT at he;split at he
 ·obtain rfl:=JB he
  exact RV.mono d c
 ·obtain rfl:=JB he
  exact(RV.nz (RV.mono d c):RV C' (PV.nz (.raw (.slice none 0 0))) v)
 ·rename_i j
  have c:v=ρ j:=c;subst c;split at he
  ·rename_i e t u g
   obtain rfl:=JB he;exact i j (by simp[AV.refs,AC.refs]) _ (.inl ⟨e,t,g⟩)
  ·rename_i u g
   obtain rfl:=JB he;exact i j (by simp[AV.refs,AC.refs]) _ (.inr g)
  ·cases he
 ·cases he
theorem uN{T:Nat}{x:Operand}{a:AV}{lo hi:Option Operand}{la ha:Option AV}(W:aU P τ)(O:o.op= .slice T x lo hi none)(hx:ao A x=some a)(hl:Lv A a.refs)
  (hlo:match lo,la with
   |some y,some b=>ao A y=some b/\Lv A b.refs
   |none,none=>True
   |_,_=>False) (g:match hi,ha with
   |some y,some b=>ao A y=some b/\Lv A b.refs
   |none,none=>True
   |_,_=>False) (h:yF τ n o A k T a la ha):cv w0 X C0 P τ n o A k:=by
 have S:x∈av' o.op:=by rw[O];simp[av']
 have F:∀{e Y bs:Nat} {l:List (List PV)} {p q:Nat},look τ.slcs T=some (e,Y,bs) ->oT A a=some l ->p<=q ->q<=l.length ->(∀x∈l,x.length=Y) ->(fin n o.dst (.c (.p (.sl ((l.take q).drop p)))) λwr=>k wr (bM A a.refs) []) ->
   (∀A' s w C ρ,Agr (ja' o.op) A A' (av' o.op) ->Rp w0 X C0 A' s w C ρ ->∀(U:Option Addr) (c:Nat) (K:St ->World ->Prop) (kp:List PanicEntry ->St ->World ->Prop),ev s.e x=some (.slice U l.length c) ->l.length<=c ->(put n s o.dst (sliced U p q c Y) λs'=>K s' w) ->aW P τ n o s w K kp) ->cv w0 X C0 P τ n o A k:=λ{e Y bs l p q} M r a1 hq a2 h H=>by
  obtain⟨wr,hk,hw,a0⟩:=kC h;refine⟨wr,_,[],hk,λA' s w K kp N _ E hK=>?_⟩;obtain⟨C,ρ,E⟩:=E;obtain⟨_,v,Z,hr⟩:=E.op N S hx hl;obtain⟨C1,a3,a7,Q⟩:=J4 E (N.m (by rw[O];rfl) x S a hx) r hr;obtain⟨U,c,rfl⟩:=RV.slv Q;have R:l.length<=c:=by
   generalize a4:Value.slice U l.length c=v at Q
   cases Q with
   |nil a c'=>simp
   |sl _ a8 b o c' f g1 g2 g3 g4=>injection a4 with _ _ e2;omega
  refine H A' s w C ρ N E U c K kp Z R (a0 s _ _ λs' B D V=>hK s' w ⟨C1,ρ,?_⟩ V);refine a3.slots (wr:=wr) (s':=s') (λt b hb _=>⟨_,B t b hb,?_⟩) D;have:=hw t b hb;subst this;exact RV.cut M Q a2 a1 hq
 unfold yF at h;split at h
 ·rename_i e Y bs l y M r
  split at h
  ·rename_i i I
   replace h:=h.go
   obtain⟨p,q,B,D,V,h4,h5,h⟩:=h;obtain⟨j,rfl⟩:=uM I;have B:i=(p:Int):=B;have D:q=l.length:=D;cases lo with
   |none=>exact hlo.elim
   |some yo=>
    cases hi with
    |some z=>exact g.elim
    |none=>
     refine F M r V h4 h5 h λA' s w C ρ N E U c K kp Z R hp=>?_;obtain⟨_,u,hu,d⟩:=E.op N (x:=yo) (by rw[O];simp[av']) hlo.1 hlo.2;have d:RV C (.int j i) u:=d;cases d;unfold aW;simp only[O];refine be Z (be hu ?_);simp only[wvo];rw[D]at hp;exact xm W M p B Uo hp
  ·exact h.elim
 ·rename_i e Y bs l y M r
  split at h
  ·rename_i i I
   replace h:=h.go
   obtain⟨p,q,B,D,V,h4,h5,h⟩:=h;obtain⟨j,rfl⟩:=uM I;have B:p=0:=B;have D:i=(q:Int):=D;cases lo with
   |some z=>exact hlo.elim
   |none=>
    cases hi with
    |none=>exact g.elim
    |some yo=>
     refine F M r V h4 h5 h λA' s w C ρ N E U c K kp Z R hp=>?_;obtain⟨_,u,hu,d⟩:=E.op N (x:=yo) (by rw[O];simp[av']) g.1 g.2;have d:RV C (.int j i) u:=d;cases d;unfold aW;simp only[O];refine be Z ?_;simp only[wvo];refine be hu ?_;rw[B]at hp;exact rb W M q D Uo hp
  ·exact h.elim
 ·rename_i e Y bs l y z M r
  split at h
  ·rename_i i i' I a5
   replace h:=h.go
   obtain⟨p,q,B,D,V,h4,h5,h⟩:=h;obtain⟨j,rfl⟩:=uM I;obtain⟨j',rfl⟩:=uM a5;have B:i=(p:Int):=B;have D:i'=(q:Int):=D;cases lo with
   |none=>exact hlo.elim
   |some yo=>
    cases hi with
    |none=>exact g.elim
    |some zo=>
     refine F M r V h4 h5 h λA' s w C ρ N E U c K kp Z R hp=>?_;obtain⟨_,u,hu,d⟩:=E.op N (x:=yo) (by rw[O];simp[av']) hlo.1 hlo.2;obtain⟨_,u',a6,L⟩:=E.op N (x:=zo) (by rw[O];simp[av']) g.1 g.2;have d:RV C (.int j i) u:=d;have L:RV C (.int j' i') u':=L;cases d;cases L;unfold aW;simp only[O];refine be Z (be hu (be a6 ?_));simp only[wvo];exact In W M p q B D V Uo hp
  ·exact h.elim
 ·exact h.elim
end
def rG(v:Value):PV:=match v with
 | .int k m=>.int k m
 | .bool b=>.bool b
 |v=>.raw v
structure yL(bs:Nat)(i j:Int)(k:Nat ->Prop):Prop where
 go:∃m c:Nat,i=(m:Int)/\j=(c:Int)/\m<=c/\bs*c<=281474976710656/\c<=maxLen/\k m
theorem DZ{bs:Nat}{i j:Int}{k:Nat ->Prop}(m c:Nat)(b:k m)(h1:i=(m:Int))(h2:j=(c:Int))(a:m<=c:=by omega)(hm:c<=1000000:=by omega)(hb:bs<=1000:=by decide):yL bs i j k:=by
 have:bs*c<=1000*1000000:=Nat.mul_le_mul hb hm;exact⟨m,c,h1,h2,a,Uo,KQ hm UO,b⟩
theorem D0{bs:Nat}{i j:Int}{k:Nat ->Prop}(m:Nat)(a:k m)(h1:i=(m:Int))(h2:j=(m:Int))(hm:m<=1000000:=by omega)(hb:bs<=1000:=by decide):yL bs i j k:=DZ m m a h1 h2 (KJ _) hm hb
section
variable(P:Program)(τ:Tau)(n:Nat)(o:Oper)(A:AS)(k:Kk)
def yM(T:Nat)(a b:AV):Prop:=match look τ.slcs T,a,b with
 |some (e,sz,bs),.c (.p (.int .i64 i)),.c (.p (.int .i64 j))=>match τ.zero e with
  |some z=>match Nat.beq z.length sz,Nat.ble 1 sz,bH A (z.map ii),o.dst with
   |true,true,true,some d=>match Nat.ble (d+1) n with
    |true=>yL bs i j λm=>k [(d,.c (.row d))] [(d,.rw e sz (List.replicate m (z.map rG)))] [d]
    |false=>False
   |_,_,_,_=>False
  |none=>False
 |_,_,_=>False
end
theorem uO{α:Type}(z:List α):∀m:Nat,(List.replicate m z).flatten.length=m*z.length
 |0=>Ud
 |m+1=>by rw[List.replicate_succ,List.flatten_cons,JK,uO z m,Nat.succ_mul,Nat.add_comm]
theorem D1(z:List Value):∀m:Nat,gI z m=(List.replicate m z).flatten
 |0=>rfl
 |m+1=>by rw[List.replicate_succ,List.flatten_cons,<- D1 z m];rfl
theorem J5{C:Mem}(v:Value):RV C (rG v) v:=by
 unfold rG;split
 ·exact .int _ _
 ·exact .bool _
 ·exact .raw _
section
variable{w0:World}{X:List Nat}{C0:Mem}{P:Program}{τ:Tau}{n:Nat}{o:Oper}{A A':AS}{k:Kk}{s s':St}{w w':World}{C C':Mem}{ρ:Nat ->Value}
theorem J6(I:aU P τ){T:Nat}{x y:Operand}{a b:AV}(L:o.op= .makeSlice T x y)(ha:ao A x=some a)(M:Lv A a.refs)(hb:ao A y=some b)(N:Lv A b.refs)(h:yM τ n o A k T a b):cv w0 X C0 P τ n o A k:=by
 have O:x∈av' o.op:=by rw[L];simp[av']
 have Q:y∈av' o.op:=by rw[L];simp[av']
 unfold yM at h;split at h
 ·rename_i e sz bs i j hs
  split at h
  ·rename_i z hz
   split at h
   ·rename_i d l h2 h4 hd
    have l:=QJ l;have h2:=QX h2;split at h
    ·rename_i hn
     replace h:=h.go
     obtain⟨m,c,rfl,rfl,p,a0,E,h⟩:=h;refine⟨_,_,_,h,λA' s w K kp hA R D hK=>?_⟩;obtain⟨C,ρ,D⟩:=D;have R:=R d Ud;obtain⟨_,u,F,r⟩:=D.op hA O ha M;obtain⟨_,v,hv,B⟩:=D.op hA Q hb N;have r:RV C (.int .i64 (m:Int)) u:=r;have B:RV C (.int .i64 (c:Int)) v:=B;cases r;cases B;have S:=uH (C:=C) (ρ:=ρ) h4;unfold aW;simp only[L];refine be F (be hv<|Ch I hs hz m c rfl rfl p Uo Uo E λb w' hb hB a1 U=>?_);rw[hd];unfold put;simp only[hn];obtain⟨e0,ds⟩:=s;rw[D1]at hB;refine hK _ _ ⟨C,jS ρ d (.slice (some ⟨b,0,none⟩) m c),D.fresh (wr:=[(d,.c (.row d))]) (x:=.rw e sz (List.replicate m (z.map rG))) R U (λg hg=>?_) ⟨List.replicate m z,?_,λx V=>?_,Ud,λi us x hi V=>?_⟩ (λt a H=>?_) λt H=>?_⟩ rfl
     ·obtain rfl:b=g:=JB hg
      omega
     ·rw[gc,List.length_replicate]
      refine yb (base:=w0.heap.size) ⟨by rw[uO,l],.inr ⟨b,c,(List.replicate c z).flatten.toArray,rfl,by rw[hb];exact D.kp.size,hB,p,E,by simp[uO,l],?_⟩⟩ (KJ _);rw[show (List.replicate c z).flatten=(List.replicate m z).flatten++(List.replicate (c-m) z).flatten by rw[<- List.flatten_append,List.replicate_append_replicate,Nat.add_sub_cancel' p]];simp[uO,l]
     ·obtain rfl:=(List.mem_replicate.1 V).2
      simpa using l
     ·have W:us=z:=by
       have:=JQ hi;exact(List.mem_replicate.1 this).2
      have Y:x=z.map rG:=by
       have:=JQ V;exact(List.mem_replicate.1 this).2
      subst W Y;refine⟨l,λj y u hy F=>?_⟩;rw[JX,F]at hy;obtain rfl:=JB hy;exact⟨(S.2 j _ u (by rw[JX,F];rfl) F).1,J5 u⟩
     ·obtain⟨rfl,rfl⟩:=bU H
      refine⟨.slice (some ⟨b,0,none⟩) m c,?_,(gc _ _ _).symm⟩;rw[eQ,Nat.beq_refl]
     ·rw[cG]at H
      rw[eQ];cases Z:Nat.beq d t with
      |true=>rw[Z]at H;cases H
      |false=>rfl
    ·exact h.elim
   ·exact h.elim
  ·exact h.elim
 ·exact h.elim
end
def AC.ren(f:Nat ->Nat):AC ->AC
 | .row k=>.row (f k)
 | .ptr k o=>.ptr (f k) o
 | .rp k sz j o=>.rp (f k) sz j o
 | .fn g ks=>.fn g (ks.map f)
 | .fr u g ks=>.fr u g (ks.map f)
 | .rv u k=>.rv u (f k)
 |x=>x
def AV.ren(f:Nat ->Nat):AV ->AV
 | .c x=>.c (x.ren f)
 | .agg cs=>.agg (cs.map (AC.ren f))
 | .tp cs=>.tp (cs.map (AC.ren f))
def SE.ren(f:Nat ->Nat):SE ->SE
 | .st g T cs=>.st g T (cs.map (AC.ren f))
 |x=>x
theorem uP(f:Nat ->Nat)(x:AC):(x.ren f).refs=x.refs.map f:=by cases x<;>rfl
theorem D2(f:Nat ->Nat)(l:List AC):refsL (l.map (AC.ren f))=(refsL l).map f:=by
 induction l with
 |nil=>rfl
 |cons x r a=>
  show (x.ren f).refs++refsL (r.map (AC.ren f))=(x.refs++refsL r).map f;rw[uP,a,KB]
theorem J7(f:Nat ->Nat)(a:AV):(a.ren f).refs=a.refs.map f:=by
 cases a with
 |c x=>exact uP f x
 |agg cs=>exact D2 f cs
 |tp cs=>exact D2 f cs
theorem RC.ren_iff{C:Mem}{ρ:Nat ->Value}{f:Nat ->Nat}{c:AC}{v:Value}:RC C ρ (c.ren f) v↔RC C (λk=>ρ (f k)) c v:=by
 cases c with
 |fn g a=>
  simp only[AC.ren,RC,List.map_map];exact Iff.rfl
 |fr u g a=>
  simp only[AC.ren,RC,List.map_map];exact Iff.rfl
 |_=>exact Iff.rfl
theorem RC.ren{C:Mem}{ρ:Nat ->Value}{f:Nat ->Nat}{c:AC}{v:Value}(h:RC C ρ (c.ren f) v):RC C (λk=>ρ (f k)) c v:=RC.ren_iff.1 h
theorem RA.ren_iff{C:Mem}{ρ:Nat ->Value}{f:Nat ->Nat}{a:AV}{v:Value}:RA C ρ (a.ren f) v↔RA C (λk=>ρ (f k)) a v:=by
 have e:∀(cs:List AC) (b:List Value),(b.length=(cs.map (AC.ren f)).length/\∀(i:Nat) c u,(cs.map (AC.ren f))[i]?=some c ->b[i]?=some u ->RC C ρ c u)↔(b.length=cs.length/\∀(i:Nat) c u,cs[i]?=some c ->b[i]?=some u ->RC C (λk=>ρ (f k)) c u):=λcs b=>by
  rw[KF];refine and_congr_right λ_=>⟨λh i c u d g=>RC.ren_iff.1 (h i _ u (by rw[JX,d];rfl) g),λh i c u d g=>?_⟩
  rw[JX]at d;cases j:cs[i]? with
  |none=>rw[j]at d;cases d
  |some x=>
   rw[j]at d;obtain rfl:=JB d;exact RC.ren_iff.2 (h i x u j g)
 cases a with
 |c x=>exact RC.ren_iff
 |agg cs=>exact exists_congr λb=>and_congr_right λ_=>e cs b
 |tp cs=>exact exists_congr λb=>and_congr_right λ_=>e cs b
theorem oU(f:Nat ->Nat)(x:SE):(x.ren f).mut=x.mut:=by cases x<;>rfl
theorem D3(f:Nat ->Nat)(x:SE):(x.ren f).alive=x.alive:=by cases x<;>rfl
def fe(k:Nat):List Nat ->Bool
 |[]=>false
 |x::r=>match Nat.beq x k with
  |true=>true
  |false=>fe k r
theorem nO{k:Nat}:∀{l:List Nat},k∈l ->fe k l=true
 |x::r,h=>by
  simp only[fe];cases a:Nat.beq x k with
  |true=>rfl
  |false=>
   rcases List.mem_cons.1 h with h|h
   ·subst h
    rw[Nat.beq_refl]at a;cases a
   ·exact nO h
theorem rH{k:Nat}:∀{l:List Nat},fe k l=true ->k∈l
 |x::r,h=>by
  simp only[fe]at h;split at h
  ·rename_i a
   simp[QJ a]
  ·simp[rH h]
def keysOf{α:Type}(l:List (Nat×α)):List Nat:=List.rec (motive:=λ_=>List Nat) [] (λp _ ih=>p.1::ih) l
theorem mD{α:Type}(l:List (Nat×α)):keysOf l=l.map (·.1):=by
 induction l with
 |nil=>rfl
 |cons p r a=>exact KG (p.1:: ·) a
def kF(l:List (Nat×SE)):List Nat:=List.rec (motive:=λ_=>List Nat) [] (λp _ ih=>p.2.refs++ih) l
theorem iE{α:Type}{l:List (Nat×α)}{k:Nat}(h:look l k≠none):k∈keysOf l:=by
 induction l with
 |nil=>exact absurd rfl h
 |cons p r b=>
  obtain⟨q,y⟩:=p;show k∈q::keysOf r;rw[cG]at h;cases a:Nat.beq q k with
  |true=>simp[QJ a]
  |false=>
   rw[a]at h;simp[b h]
theorem D4{l:List (Nat×SE)}{p:Nat×SE}(h:p∈l){k:Nat}(a:k∈p.2.refs):k∈kF l:=by
 induction l with
 |nil=>cases h
 |cons q r b=>
  show k∈q.2.refs++kF r;rcases List.mem_cons.1 h with rfl|h
  ·exact QW _ a
  ·exact QV _ (b h)
def dc(f:Nat ->Nat)(l:List Nat):Bool:=List.rec (motive:=λ_=>Bool) true (λk r ih=>match fe (f k) (r.map f)with
 |true=>false
 |false=>ih) l
theorem uQ{f:Nat ->Nat}:∀{l:List Nat},dc f l=true ->∀j∈l,∀k∈l,f j=f k ->j=k
 |q::r,h,j,t,k,d,e=>by
  have h:(match fe (f q) (r.map f)with
   |true=>false
   |false=>dc f r)=true:=h
  split at h
  ·cases h
  ·rename_i g
   have i:∀x∈r,f q≠f x:=λx u e=>by
    rw[nO (by rw[e];exact QD u)]at g;cases g
   rcases List.mem_cons.1 t with p|b
   ·rcases List.mem_cons.1 d with c|a
    ·rw[p,c]
    ·exact absurd (p▸e) (i k a)
   ·rcases List.mem_cons.1 d with c|a
    ·exact absurd (c▸e).symm (i j b)
    ·exact uQ h j b k a e
theorem oV{α:Type}{l:List (Nat×α)}{f:Nat ->Nat}(hi:dc f (keysOf l)=true){k:Nat}{x:α}(h:(k,x)∈l):look l k=some x:=by
 induction l with
 |nil=>cases h
 |cons p r c=>
  obtain⟨q,y⟩:=p;have a:(match fe (f q) ((keysOf r).map f)with
   |true=>false
   |false=>dc f (keysOf r))=true:=hi
  split at a
  ·cases a
  rename_i b;rw[cG];rcases List.mem_cons.1 h with h|h
  ·injection h with d e
   subst d e;rw[Nat.beq_refl]
  ·cases g:Nat.beq q k with
   |true=>
    obtain rfl:=QJ g;rw[nO (QD (by rw[mD];exact QD (f:=(·.1)) h))]at b;cases b
   |false=>exact c a h
def kD':List AV ->Nat ->List (Nat×AV)
 |[],_=>[]
 |a::r,i=>(i,a)::kD' r (i+1)
def VG(P:Program)(f:FuncId)(aes:List AV)(m:List (Nat×SE))(r:Except (List PanicEntry) (AV×List (Nat×SE))):Prop:=
 dO P f/\∀(w:World) (X:List Nat) (C:Mem) (ρ:Nat ->Value) (vs:List Value),vs.length=aes.length ->Rp w X C ⟨kD' aes 0,m⟩ ⟨ini vs 0,[]⟩ w C ρ ->
  Calls P f vs.toArray w λe w'=>match (generalizing:=false) r with
   | .ok q=>∃v C' ρ',e= .returned v/\Rp w X C ⟨[(0,q.1)],q.2⟩ ⟨[(0,v)],[]⟩ w' C' ρ'
   | .error ch=>e= .panicked ch/\Kp X w w'
def SE.fl:SE ->Option Nat
 | .st g _ _=>some g
 | .ob g _=>some g
 |_=>none
def SE.inf(g:Nat):SE ->SE
 | .st _ T cs=>.st g T cs
 | .ob _ Q=>.ob g Q
 |x=>x
def SE.isSt:SE ->Bool
 | .st _ _ _=>true
 |_=>false
def su':Option SE ->Nat
 |some (.st g _ _)=>g
 |some (.ob g _)=>g
 |_=>0
def lF(m:List (Nat×SE)):Nat ->Bool:=List.rec (motive:=λ_=>Nat ->Bool) (λ_=>true) (λp _ ih i=>match p.2.fl with
 |some g=>match Nat.beq g (i+1)with
  |true=>ih (i+1)
  |false=>false
 |none=>ih i) m
def rJ(m:List Nat)(l:List Nat):List Nat:=List.rec (motive:=λ_=>List Nat) [] (λk _ ih=>match fe k m with
 |true=>ih
 |false=>k::ih) l
def newK(m m':List (Nat×SE)):List Nat:=rJ (keysOf m) (keysOf m')
def yN(m m':List (Nat×SE)):List Nat:=rJ (keysOf m') (keysOf m)
def jT(m:List (Nat×SE))(l:List (Nat×SE)):Bool:=List.rec (motive:=λ_=>Bool) true (λp _ ih=>match look m p.1 with
 |some x=>match p.2.fl,x.fl with
  |some g,some g'=>match Nat.beq g g',p.2.isSt,x.isSt with
   |true,true,true=>ih
   |true,false,false=>ih
   |_,_,_=>false
  |_,_=>match p.2.alive with
   |true=>false
   |false=>ih
 |none=>match p.2.fl with
  |some 0=>ih
  |none=>ih
  |_=>false) l
def jc(fg:Nat ->Nat)(h:Nat ->Nat)(m m':List (Nat×SE)):List (Nat×SE):=m'.map (λp=>(h p.1,(p.2.ren h).inf (fg (h p.1))))++(yN m m').map λk=>(h k,SE.dead)
theorem mE{m l:List Nat}{k:Nat}:k∈rJ m l↔k∈l/\k ∉ m:=by
 induction l with
 |nil=>exact⟨λh=>(by cases h),λh=>by cases h.1⟩
 |cons x r d=>
  show k∈(match fe x m with
   |true=>rJ m r
   |false=>x::rJ m r)↔_
  cases c:fe x m with
  |true=>
   have:=rH c;simp only[d,JJ];constructor
   ·rintro⟨b,a⟩;exact⟨.inr b,a⟩
   ·rintro⟨rfl|b,a⟩
    ·exact absurd this a
    ·exact⟨b,a⟩
  |false=>
   simp only[JJ,d];constructor
   ·rintro(rfl|⟨b,a⟩)
    ·exact⟨.inl rfl,λh=>by rw[nO h]at c;cases c⟩
    ·exact⟨.inr b,a⟩
   ·rintro⟨rfl|b,a⟩
    ·exact .inl rfl
    ·exact .inr ⟨b,a⟩
theorem uR{m l:List (Nat×SE)}(h:jT m l=true):∀p∈l,(∀x,look m p.1=some x ->(∃g,p.2.fl=some g/\x.fl=some g/\p.2.isSt=x.isSt) \/p.2.alive=false)/\(look m p.1=none ->p.2.fl=some 0 \/p.2.fl=none):=by
 induction l with
 |nil=>intro p e;cases e
 |cons q r D=>
  have h:(match look m q.1 with
   |some x=>match q.2.fl,x.fl with
    |some g,some v=>match Nat.beq g v,q.2.isSt,x.isSt with
     |true,true,true=>jT m r
     |true,false,false=>jT m r
     |_,_,_=>false
    |_,_=>match q.2.alive with
     |true=>false
     |false=>jT m r
   |none=>match q.2.fl with
    |some 0=>jT m r
    |none=>jT m r
    |_=>false)=true:=h
  have i:jT m r=true/\((∀x,look m q.1=some x ->(∃g,q.2.fl=some g/\x.fl=some g/\q.2.isSt=x.isSt) \/q.2.alive=false)/\(look m q.1=none ->q.2.fl=some 0 \/q.2.fl=none)):=by
   split at h
   ·rename_i x c
    split at h
    ·rename_i g v d z
     split at h
     ·rename_i j t u
      obtain rfl:=QJ j;exact⟨h,λy a=>.inl (by rw[c]at a;obtain rfl:=JB a;exact⟨g,d,z,by rw[t,u]⟩),λb=>by rw[c]at b;cases b⟩
     ·rename_i j t u
      obtain rfl:=QJ j;exact⟨h,λy a=>.inl (by rw[c]at a;obtain rfl:=JB a;exact⟨g,d,z,by rw[t,u]⟩),λb=>by rw[c]at b;cases b⟩
     ·cases h
    ·split at h
     ·cases h
     ·rename_i E
      exact⟨h,λy a=>.inr E,λb=>by rw[c]at b;cases b⟩
   ·rename_i c
    have B:∀x,look m q.1=some x ->(∃g,q.2.fl=some g/\x.fl=some g/\q.2.isSt=x.isSt) \/q.2.alive=false:=λy a=>by rw[c]at a;cases a
    split at h
    ·rename_i d
     exact⟨h,B,λ_=>.inl d⟩
    ·rename_i d
     exact⟨h,B,λ_=>.inr d⟩
    ·cases h
  intro p e;rcases List.mem_cons.1 e with rfl|e
  ·exact i.2
  ·exact D i.1 p e
def nP(ρ:Nat ->Value)(m:List (Nat×SE)):List Nat:=List.rec (motive:=λ_=>List Nat) [] (λp _ ih=>match p.2.fl with
 |some _=>(blk (ρ p.1)).getD 0::ih
 |none=>ih) m
def rK(ρ:Nat ->Value)(m:List (Nat×SE)):List Nat:=List.rec (motive:=λ_=>List Nat) [] (λp _ ih=>match p.2.fl,p.2.mut,blk (ρ p.1)with
 |none,true,some g=>g::ih
 |_,_,_=>ih) m
theorem oW{ρ:Nat ->Value}:∀{m:List (Nat×SE)} {i:Nat},lF m i=true ->∀p∈m,∀g,p.2.fl=some g ->∃q,g=i+q+1/\(nP ρ m)[q]?=some ((blk (ρ p.1)).getD 0)
 |x::r,i,h,p,a,g,b=>by
  have h:(match x.2.fl with
   |some g=>match Nat.beq g (i+1)with
    |true=>lF r (i+1)
    |false=>false
   |none=>lF r i)=true:=h
  have e:nP ρ (x::r)=(match x.2.fl with
   |some _=>(blk (ρ x.1)).getD 0::nP ρ r
   |none=>nP ρ r):=rfl
  rw[e];split at h
  ·rename_i t c
   split at h
   ·rename_i l
    obtain rfl:=QJ l;rcases List.mem_cons.1 a with rfl|a
    ·rw[c]at b
     obtain rfl:=JB b;exact⟨0,rfl,rfl⟩
    ·obtain⟨q,j,d⟩:=oW h p a g b
     exact⟨q+1,Uo,d⟩
   ·cases h
  ·rename_i c
   rcases List.mem_cons.1 a with rfl|a
   ·rw[c]at b;cases b
   ·obtain⟨q,j,d⟩:=oW h p a g b
    exact⟨q,j,d⟩
theorem J8{ρ:Nat ->Value}{m:List (Nat×SE)}{z:Nat}(h:z∈nP ρ m):∃p∈m,∃g,p.2.fl=some g/\z=(blk (ρ p.1)).getD 0:=by
 induction m with
 |nil=>cases h
 |cons x r c=>
  have h:z∈(match x.2.fl with
   |some _=>(blk (ρ x.1)).getD 0::nP ρ r
   |none=>nP ρ r):=h
  split at h
  ·rename_i g d
   rcases List.mem_cons.1 h with rfl|h
   ·exact⟨x,Ud,g,d,rfl⟩
   ·obtain⟨p,a,b⟩:=c h
    exact⟨p,by simp[a],b⟩
  ·obtain⟨p,a,b⟩:=c h
   exact⟨p,by simp[a],b⟩
theorem D5{ρ:Nat ->Value}{m:List (Nat×SE)}{z:Nat}:z∈rK ρ m↔∃p∈m,p.2.fl=none/\p.2.mut=true/\blk (ρ p.1)=some z:=by
 induction m with
 |nil=>exact⟨λh=>(by cases h),λ⟨p,h,_⟩=>by cases h⟩
 |cons x r d=>
  have e:rK ρ (x::r)=(match x.2.fl,x.2.mut,blk (ρ x.1)with
   |none,true,some g=>g::rK ρ r
   |_,_,_=>rK ρ r):=rfl
  rw[e];constructor
  ·intro h
   split at h
   ·rename_i g a b c
    rcases List.mem_cons.1 h with rfl|h
    ·exact⟨x,Ud,a,b,c⟩
    ·obtain⟨p,a,b⟩:=d.1 h
     exact⟨p,by simp[a],b⟩
   ·obtain⟨p,a,b⟩:=d.1 h
    exact⟨p,by simp[a],b⟩
  ·rintro⟨p,i,a,b,c⟩
   rcases List.mem_cons.1 i with rfl|i
   ·simp[a,b,c]
   ·have:=d.2 ⟨p,i,a,b,c⟩
    split
    ·simp[this]
    ·exact this
def SE.alike(x y:SE):Prop:=x.inf 0=y.inf 0
theorem oX{x y:SE}(h:x.alike y):(x.fl=none↔y.fl=none)/\x.mut=y.mut/\x.alive=y.alive/\x.isSt=y.isSt:=by
 unfold SE.alike at h;cases x<;>cases y<;>simp_all [SE.inf,SE.fl,SE.mut,SE.alive,SE.isSt]
theorem rL{x:SE}{g:Nat}(h:x.fl=some g):x.mut=true/\x.alive=true:=by cases x<;>first|exact⟨rfl,rfl⟩|cases h
theorem D6(f:Nat ->Nat)(x:SE):(x.ren f).fl=x.fl/\(x.ren f).isSt=x.isSt:=by cases x<;>exact⟨rfl,rfl⟩
theorem J9{x:SE}{g:Nat}(h:x.fl=some g):x.fl=some (su' (some x)):=by cases x<;>first|rfl|cases h
theorem yO{lo:Nat}{X:List Nat}{A:AS}{C:Mem}{ρ:Nat ->Value}{w:World}{k g:Nat}{x:SE}(h:RE lo X A C ρ w k x)(a:x.fl=some g):∃b,blk (ρ k)=some b/\Ori lo X g b/\ρ k=bif x.isSt then .pointer (some ⟨b,0,none⟩)else .map (some b):=by
 cases x with
 |st d T cs=>
  obtain rfl:=JB a;obtain⟨b,i,e,_,c,_⟩:=h;exact⟨b,by rw[e];rfl,c,e⟩
 |ob d Q=>
  obtain rfl:=JB a;obtain⟨b,o,e,_,_,c⟩:=h;exact⟨b,by rw[e];rfl,c,e⟩
 |_=>cases a
theorem rN{h:Nat ->Nat}:∀{l r:List Nat},dc h (l++r)=true ->dc h l=true
 |[],r,_=>rfl
 |x::l,r,a=>by
  have a:(match fe (h x) ((l++r).map h)with
   |true=>false
   |false=>dc h (l++r))=true:=a
  show (match fe (h x) (l.map h)with
   |true=>false
   |false=>dc h l)=true
  split at a
  ·cases a
  ·rename_i b
   cases c:fe (h x) (l.map h)with
   |true=>
    rw[nO (by rw[KB];exact QW _ (rH c))]at b;cases b
   |false=>exact rN a
section
variable{w0:World}{X0:List Nat}{C0:Mem}{A:AS}{s s':St}{w w':World}{C C':Mem}{ρ ρ':Nat ->Value}{h:Nat ->Nat}{m m':List (Nat×SE)}
def Ents(A:AS)(h:Nat ->Nat)(m:List (Nat×SE)):Prop:=∀p∈m,∃x,look A.m (h p.1)=some x/\x.alike (p.2.ren h)
def blksG(ρ:Nat ->Value)(m:List (Nat×SE)):List Nat:=nP ρ m++rK ρ m
theorem D7(l:Rp w0 X0 C0 A s w C ρ)(j:Ents A h m){z:Nat}(c:z∈blksG (λk=>ρ (h k)) m):∃p∈m,∃x,look A.m (h p.1)=some x/\x.mut=true/\blk (ρ (h p.1))=some z:=by
 rcases List.mem_append.1 c with c|c
 ·obtain⟨p,d,g,B,rfl⟩:=J8 c
  obtain⟨x,e,i⟩:=j p d;obtain⟨r,D,E,_⟩:=oX i;cases a:x.fl with
  |none=>
   have:=r.1 a;cases t:p.2<;>simp_all [SE.ren,SE.fl]
  |some F=>
   obtain⟨b,u,_⟩:=yO (l.ent _ _ e) a;exact⟨p,d,x,e,(rL a).1,by rw[u];rfl⟩
 ·obtain⟨p,d,H,v,y⟩:=D5.1 c
  obtain⟨x,e,i⟩:=j p d;exact⟨p,d,x,e,by rw[(oX i).2.1,oU];exact v,y⟩
theorem Rp.into(R:Rp w0 X0 C0 A s w C ρ)(N:Ents A h m)(hi:dc h (keysOf m)=true)(hf:lF m 0=true){bs:List AV}{vs:List Value}(hl:vs.length=bs.length)(ha:∀(i:Nat) b v,bs[i]?=some b ->vs[i]?=some v ->RA C (λk=>ρ (h k)) b v):Rp w (blksG (λk=>ρ (h k)) m) C ⟨kD' bs 0,m⟩ ⟨ini vs 0,[]⟩ w C λk=>ρ (h k):=by
 have V:∀l:List Nat,Lv ⟨kD' bs 0,m⟩ l ->Lv A (l.map h):=λl hl k z=>by
  obtain⟨j,S,rfl⟩:=List.mem_map.1 z;obtain⟨y,p,B⟩:=hl j S;obtain⟨x,E,F⟩:=N _ (dm p);exact⟨x,E,by rw[(oX F).2.2.1,D3];exact B⟩
 have sl:∀(aes:List AV) (H:List Value) (i t:Nat) (a:AV),H.length=aes.length ->look (kD' aes i) t=some a ->∃q v,t=i+q/\aes[q]?=some a/\H[q]?=some v/\get (ini H i) t=some v:=by
  intro aes
  induction aes with
  |nil=>intro H i t a _ I;cases I
  |cons b r ih=>
   intro H i t a hl I
   match H,hl with
   |u::H,hl=>
    simp only[kD',cG]at I;simp only[ini,eQ];cases W:Nat.beq i t with
    |true=>
     rw[W]at I;obtain rfl:=QJ W;exact⟨0,u,rfl,I,rfl,rfl⟩
    |false=>
     rw[W]at I;obtain⟨q,v,p,B,E,F⟩:=ih H (i+1) t a (by simpa using hl) I;exact⟨q+1,v,Uo,B,E,F⟩
 refine⟨λt a I _=>?_,λk y z=>?_,λj k x y g Y S Z z a0 O=>?_,λk x g b o v z hm O=>?_,R.sub,λ_ _ _ h=>h,λ_ _ _ h=>.inl ⟨_,_,h⟩,Kp.refl _ _⟩
 ·obtain⟨q,v,_,B,E,F⟩:=sl bs vs 0 t a hl I
  exact⟨v,F,ha q a v B E⟩
 ·obtain⟨x,hx,d⟩:=N _ (dm z)
  have U:=R.ent _ _ hx;cases y with
  |st g T cs=>
   cases x with
   |st g0 T0 a1=>
    have d:SE.st 0 T0 a1=SE.st 0 T (cs.map (AC.ren h)):=d;injection d with _ K e2
    subst K e2;obtain⟨b,H,p,B,E,F,h5⟩:=U;obtain⟨q,a2,D⟩:=oW (ρ:=λk=>ρ (h k)) hf _ (dm z) g rfl;refine⟨b,H,p,B,.inr ⟨q,Uo,?_⟩,by simpa using F,λi c u hc hu=>?_⟩
    ·have p:ρ (h k)= .pointer (some ⟨b,0,none⟩):=p
     unfold blksG;rw[QH (List.getElem?_eq_some_iff.1 D).1,D,p]
     rfl
    ·obtain⟨o1,o2⟩:=h5 i (c.ren h) u (by rw[JX,hc];rfl) hu
     exact⟨o1,λhl=>RC.ren (o2 (by rw[uP];exact V _ hl))⟩
   |_=>cases d
  |rw e sz l=>
   cases x with
   |rw e0 a3 l0=>
    have d:SE.rw e0 a3 l0=SE.rw e sz l:=d;injection d with K e2 e3
    subst K e2 e3;obtain⟨a4,p,B,E,F⟩:=U;exact⟨a4,⟨p.1,λg O=>.inr (QV _ (D5.2 ⟨_,dm z,rfl,rfl,O⟩))⟩,B,E,F⟩
   |_=>cases d
  |fz l=>
   cases x with
   |fz l0=>
    have d:SE.fz l0=SE.fz l:=d;injection d with K
    subst K;exact U
   |_=>cases d
  |ob g Q=>
   cases x with
   |ob g0 Q0=>
    have d:SE.ob 0 Q0=SE.ob 0 Q:=d;injection d with _ K
    subst K;obtain⟨b,o,p,B,E,F⟩:=U;obtain⟨q,a2,D⟩:=oW (ρ:=λk=>ρ (h k)) hf _ (dm z) g rfl;refine⟨b,o,p,B,E,.inr ⟨q,Uo,?_⟩⟩;have p:ρ (h k)= .map (some b):=p;unfold blksG;rw[QH (List.getElem?_eq_some_iff.1 D).1,D,p]
    rfl
   |_=>cases d
  |dead=>exact VQ
 ·obtain⟨x',L,M⟩:=N _ (dm S)
  obtain⟨y',a5,a6⟩:=N _ (dm z);refine R.sep (h j) (h k) x' y' g (λe=>Y (uQ hi j (iE (by rw[S];simp)) k (iE (by rw[z];simp)) e)) L (by rw[(oX M).2.1,oU];exact Z) a5 (by rw[(oX a6).2.1,oU];exact a0) O
 ·obtain⟨x',L,M⟩:=N _ (dm z)
  exact R.off (h k) x' g b o v L (by rw[(oX M).2.1,oU];exact hm) O
theorem Rp.back(hR:Rp w0 X0 C0 A s w C ρ)(hE:Ents A h m)(hi:dc h (keysOf m++newK m m')=true)(a3:dc h (keysOf m')=true)(hf:lF m 0=true)(hp:jT m m'=true){a:AV}{v:Value}(c8:gS ⟨[],m'⟩ (a.refs++kF m')=true)(hF:∀k∈(newK m m').map h,NoRef k A){fg:Nat ->Nat}(c9:∀p∈m',p.2.fl≠none ->su' (look A.m (h p.1))=fg (h p.1))
  (I:Rp w (blksG (λk=>ρ (h k)) m) C ⟨[(0,a)],m'⟩ ⟨[(0,v)],[]⟩ w' C' ρ') {wr:List (Nat×AV)} (ht:∀t b,look wr t=some b ->b=a.ren h/\get s'.e t=some v) (c':∀t,look wr t=none ->get s'.e t=get s.e t):Rep w0 X0 C0 (A.upd wr (jc fg h m m')) s' w':=by
 classical
 have b8:∀j∈keysOf m++newK m m',∀k∈keysOf m++newK m m',h j=h k ->j=k:=uQ hi;have a5:∀{l:List (Nat×SE)} {p:Nat×SE},p∈l ->p.1∈keysOf l:=λhp=>by rw[mD];exact QD (f:=(·.1)) hp
 have b9:∀{l:List (Nat×SE)} {k:Nat},k∈keysOf l ->∃y,(k,y)∈l:=λE=>by
  rw[mD]at E;obtain⟨p,hp,rfl⟩:=List.mem_map.1 E;exact⟨p.2,hp⟩
 have d':dc h (keysOf m)=true:=rN hi;obtain⟨L,c0⟩:∃L:Nat ->Value,L=λq=>if K:∃j,j∈newK m m'/\h j=q then ρ' K.choose else ρ q:=⟨_,rfl⟩
 have r1:∀j∈newK m m',L (h j)=ρ' j:=λj D=>by
  have K:∃i,i∈newK m m'/\h i=h j:=⟨j,D,rfl⟩
  rw[c0];simp only[dif_pos K];rw[b8 _ (QV _ K.choose_spec.1) _ (QV _ D) K.choose_spec.2]
 have r2:∀q,q ∉ (newK m m').map h ->L q=ρ q:=λq K=>by
  rw[c0];simp only;rw[dif_neg];rintro⟨j,d,rfl⟩;exact K (QD d)
 have e0:∀j∈keysOf m,h j ∉ (newK m m').map h:=λj D E=>by
  obtain⟨i,d,B⟩:=List.mem_map.1 E;obtain rfl:=b8 _ (QV _ d) _ (QW _ D) B;exact(mE.1 d).2 D
 have Y:∀j y,(j,y)∈m' ->j∈keysOf m ->y.alive=true ->∃b g x,y.fl=some g/\look A.m (h j)=some x/\x.fl=some (su' (some x))/\blk (ρ (h j))=some b/\blk (ρ' j)=some b/\Ori w0.heap.size X0 (su' (some x)) b/\(L (h j)=ρ' j):=λj y F D M=>by
  obtain⟨y0,b0⟩:=b9 D;have e4:=oV d' b0;have e5:=oV a3 F;obtain⟨c1,_⟩:=uR hp _ F;rcases c1 y0 e4 with ⟨g,e1,e2,e3⟩|e1
  ·obtain⟨x,O,ha⟩:=hE _ b0
   obtain⟨a1,_,_,a4⟩:=oX ha;have a1:x.fl=none↔(y0.ren h).fl=none:=a1;have a4:x.isSt=(y0.ren h).isSt:=a4;rw[(D6 h y0).1]at a1;rw[(D6 h y0).2]at a4;obtain⟨g0,c2⟩:∃g0,x.fl=some g0:=by
    cases K:x.fl with
    |none=>rw[a1.1 K]at e2;cases e2
    |some g0=>exact⟨g0,rfl⟩
   have a6:=J9 c2;obtain⟨b,U,ho,b1⟩:=yO (hR.ent _ _ O) a6;obtain⟨b2,e6,e7,e8⟩:=yO (I.ent j y e5) e1;obtain⟨q,g9,c3⟩:=oW (ρ:=λk=>ρ (h k)) hf _ b0 g e2;have e9:b2=b:=by
    rcases e7 with ⟨h0,_⟩|⟨i,d,B⟩
    ·omega
    ·obtain rfl:i=q:=Uo
     unfold blksG at B;rw[QH (List.getElem?_eq_some_iff.1 c3).1,c3]at B;have:=JB B;have U:blk (ρ (h j))=some b:=U;simp only[U,Option.getD_some]at this;exact this.symm
   subst e9;refine⟨b2,g,x,e1,O,a6,U,e6,ho,?_⟩;rw[r2 _ (e0 j D),e8];have b1:ρ (h j)=bif x.isSt then .pointer (some ⟨b2,0,none⟩)else .map (some b2):=b1
   rw[b1,e3,a4]
  ·rw[M]at e1;cases e1
 have e':∀j∈keysOf m++newK m m',∃x,(h j,x)∈jc fg h m m':=λj D=>by
  by_cases b3:j∈keysOf m'
  ·obtain⟨y,F⟩:=b9 b3
   exact⟨_,QW _ (QD (f:=λp:Nat×SE=>(h p.1,(p.2.ren h).inf (fg (h p.1)))) F)⟩
  ·rcases List.mem_append.1 D with D|D
   ·exact⟨_,QV _ (QD (f:=λk=>(h k,SE.dead)) (mE.2 ⟨D,b3⟩))⟩
   ·exact absurd (mE.1 D).1 b3
 have V:∀j∈keysOf m++newK m m',∃x,look (jc fg h m m') (h j)=some x:=λj D=>by
  obtain⟨x,O⟩:=e' j D;cases K:look (jc fg h m m') (h j)with
  |some x=>exact⟨x,rfl⟩
  |none=>
   exfalso;have:∀l:List (Nat×SE),(h j,x)∈l ->look l (h j)≠none:=λl=>by
    induction l with
    |nil=>intro d;cases d
    |cons p r ih=>
     intro d B;obtain⟨q,y⟩:=p;rw[cG]at B;cases U:Nat.beq q (h j)with
     |true=>rw[U]at B;cases B
     |false=>
      rw[U]at B;rcases List.mem_cons.1 d with d|d
      ·injection d with d
       rw[d,Nat.beq_refl]at U;cases U
      ·exact ih d B
   exact this _ O K
 have a7:∀k x,look (jc fg h m m') k=some x ->(∃j y,(j,y)∈m'/\k=h j/\x=(y.ren h).inf (fg (h j))) \/(∃j∈keysOf m,k=h j/\x= .dead):=λk x E=>by
  rcases List.mem_append.1 (dm E)with d|d
  ·obtain⟨p,B,N⟩:=List.mem_map.1 d
   injection N with N W
   exact .inl ⟨p.1,p.2,B,N.symm,W.symm⟩
  ·obtain⟨j,B,N⟩:=List.mem_map.1 d
   injection N with N W
   exact .inr ⟨j,(mE.1 B).1,N.symm,W.symm⟩
 have H:∀(y:SE) (g:Nat),((y.ren h).inf g).mut=y.mut/\((y.ren h).inf g).alive=y.alive:=λy g=>by cases y<;>exact⟨rfl,rfl⟩
 have R:∀j y,(j,y)∈m' ->y.alive=true ->L (h j)=ρ' j:=λj y F M=>by
  by_cases D:j∈keysOf m
  ·obtain⟨_,_,_,_,_,_,_,_,_,e⟩:=Y j y F D M
   exact e
  ·exact r1 j (mE.2 ⟨a5 F,D⟩)
 have b4:=nK c8;have c4:∀k,k∈a.refs++kF m' ->L (h k)=ρ' k:=λk E=>by
  obtain⟨y,d,B⟩:=b4 k E;exact R k y (dm d) B
 have Z:∀z∈blksG (λk=>ρ (h k)) m,∃j∈keysOf m,∃x,look A.m (h j)=some x/\x.mut=true/\blk (ρ (h j))=some z:=λz S=>by
  obtain⟨p,hp,x,d,B,N⟩:=D7 hR hE S;exact⟨p.1,a5 hp,x,d,B,N⟩
 have a0:∀q x z,look (jc fg h m m') q=none ->look A.m q=some x ->x.mut=true ->(w.heap.size<=z \/z∈blksG (λk=>ρ (h k)) m) ->blk (ρ q)≠some z:=λq x z K O hm S e=>by
  rcases S with S|S
  ·have:=(hR.blk_lt O hm e).1
   omega
  ·obtain⟨j,D,x2,d,B,N⟩:=Z z S
   have b5:q≠h j:=λe1=>by
    obtain⟨x3,W⟩:=V j (QW _ D);rw[e1,W]at K;cases K
   exact hR.sep q (h j) x x2 z b5 O hm d B e N
 have a9:∀j y g,(j,y)∈m' ->y.fl=some g ->∀b,Ori w.heap.size (blksG (λk=>ρ (h k)) m) g b ->blk (ρ' j)=some b ->Ori w0.heap.size X0 (fg (h j)) b:=λj y g F hg b ho U=>by
  rw[<- c9 _ F (by rw[hg];simp)];simp only
  by_cases D:j∈keysOf m
  ·obtain⟨b',_,x,_,O,_,_,c5,f',_⟩:=Y j y F D (rL hg).2
   rw[U]at c5;obtain rfl:=JB c5;rw[O];exact f'
  ·have hn:look m j=none:=by
    cases K:look m j with
    |none=>rfl
    |some x=>exact absurd (iE (by rw[K];simp)) D
   have c2:g=0:=by
    rcases(uR hp _ F).2 hn with d|d
    ·have d:y.fl=some 0:=d
     rw[hg]at d;exact JB d
    ·have d:y.fl=none:=d
     rw[hg]at d;cases d
   have g3:su' (look A.m (h j))=0:=by
    cases K:look A.m (h j)with
    |none=>rfl
    |some x=>
     have:=(hF (h j) (QD (mE.2 ⟨a5 F,D⟩))).un x K;cases x<;>first|rfl|cases this
   rw[g3];rcases ho with ⟨_,d⟩|⟨i,d,_⟩
   ·exact .inl ⟨rfl,KQ hR.kp.size d⟩
   ·omega
 have a':∀z,(w.heap.size<=z \/z∈blksG (λk=>ρ (h k)) m) ->w0.heap.size<=z \/z∈X0:=λz S=>by
  rcases S with S|S
  ·exact .inl (KQ hR.kp.size S)
  ·obtain⟨j,D,x2,d,B,N⟩:=Z z S
   exact(hR.blk_lt d B N).2
 refine⟨C',L,hR.step ((newK m m').map h) r2 hF (λk E=>?_) (λk x E M=>?_) I.kp (λz S=>?_) I.c0 I.sub (λb o v hc=>?_) (λk x E=>?_) (λk x g E hm hg=>?_) (λt b g4 hl=>?_) c'⟩
 ·obtain⟨j,D,rfl⟩:=List.mem_map.1 E
  exact V j (QV _ D)
 ·rcases a7 k x E with ⟨j,y,F,rfl,rfl⟩|⟨_,_,_,rfl⟩
  ·rw[(H _ _).2]at M
   by_cases D:j∈keysOf m
   ·obtain⟨_,_,x,_,O,a6,_⟩:=Y j y F D M
    exact .inr ⟨x,O,(rL a6).2⟩
   ·exact .inl (QD (mE.2 ⟨a5 F,D⟩))
  ·cases M
 ·obtain⟨j,D,x,d,B,N⟩:=Z z S
  obtain⟨x3,W⟩:=V j (QW _ D);exact⟨h j,x3,x,W,d,B,N⟩
 ·rcases I.cn b o v hc with U|U
  ·exact .inl U
  ·exact .inr ⟨a' b U,λk x E O hm=>a0 k x b E O hm U⟩
 ·rcases a7 k x E with ⟨j,y,F,rfl,rfl⟩|⟨j,D,rfl,rfl⟩
  ·have he:=I.ent j y (oV a3 F)
   cases y with
   |st g T cs=>
    obtain⟨b,us,d,B,N,W,h5⟩:=he;refine⟨b,us,by rw[R j _ F rfl];exact d,B,a9 j _ g F rfl b N (by rw[d];rfl),by rw[KF];exact W,λi c u hc hu=>?_⟩;rw[JX]at hc;cases O:cs[i]? with
    |none=>rw[O]at hc;cases hc
    |some x=>
     rw[O]at hc;obtain rfl:=JB hc;obtain⟨o1,o2⟩:=h5 i x u O hu;have c6:∀k∈x.refs,k∈kF m':=λk E=>D4 F (jQ (JQ O) E);refine⟨o1,λ_=>RC.ren_iff.2 ((o2 λk E=>b4 k (QV _ (c6 k E))).eqv λk E=>c4 k (QV _ (c6 k E)))⟩
   |rw e sz l=>
    obtain⟨g5,d,B⟩:=he;refine⟨g5,⟨by rw[R j _ F rfl];exact d.1,λg hg=>a' g (d.2 g (by rw[<- R j _ F rfl];exact hg))⟩,B⟩
   |fz l=>
    show RV C' (.sl l) (L (h j));rw[R j _ F rfl];exact he
   |ob g Q=>
    obtain⟨b,o,d,B,N,W⟩:=he;exact⟨b,o,by rw[R j _ F rfl];exact d,B,N,a9 j _ g F rfl b W (by rw[d];rfl)⟩
   |dead=>exact VQ
  ·exact VQ
 ·rcases a7 k x E with ⟨j,y,F,rfl,rfl⟩|⟨_,_,_,rfl⟩
  ·rw[(H _ _).1]at hm
   have M:y.alive=true:=by cases y<;>first|rfl|cases hm
   rw[R j y F M]at hg;have b6:=oV a3 F;refine⟨λq y2 b5 K a2 a8=>?_,λb o v hc=>I.off j y g b o v b6 hm hg hc⟩;rcases look_app_some K with B|⟨b7,B⟩
   ·rcases a7 q y2 B with ⟨j2,z,S,rfl,rfl⟩|⟨_,_,_,rfl⟩
    ·rw[(H _ _).1]at a2
     have c7:z.alive=true:=by cases z<;>first|rfl|cases a2
     rw[R j2 z S c7]at a8;exact I.sep j2 j z y g (λe=>b5 (by rw[e])) (oV a3 S) a2 b6 hm a8 hg
    ·cases a2
   ·have g6:q ∉ (newK m m').map h:=λg7=>by
     obtain⟨i,g8,rfl⟩:=List.mem_map.1 g7;obtain⟨x3,W⟩:=V i (QV _ g8);rw[W]at b7;cases b7
    rw[r2 q g6]at a8;exact a0 q y2 g b7 B a2 (I.blk_lt b6 hm hg).2 a8
  ·cases hm
 ·obtain⟨e,hv⟩:=ht t b g4
  subst e;refine⟨v,hv,RA.ren_iff.2 ?_⟩;obtain⟨v',g1,g2⟩:=I.slot 0 a rfl λk E=>b4 k (QW _ E);obtain rfl:v'=v:=by
   have g1:some v=some v':=g1;exact(JB g1).symm
  exact g2.eqv λk E=>c4 k (QW _ E)
end
def vals(ps:List PV):List AV:=ps.map λx=>.c (.p x)
def D8(A:AS)(h:Nat ->Nat)(a b:AV):Prop:=(match b with
 | .c (.p x)=>oS A a=some x
 |b=>a=b.ren h) \/a=b/\b.refs=[]
def oY(A:AS)(h:Nat ->Nat):List AV ->List AV ->Prop
 |[],[]=>True
 |a::r,b::s=>D8 A h a b/\oY A h r s
 |_,_=>False
def kpv:List AV ->List AV ->List Nat
 |a::r,b::s=>(match b with
  | .c (.p _)=>a.refs
  |_=>[])++kpv r s
 |_,_=>[]
def nQ(A:AS)(h:Nat ->Nat)(m:List (Nat×SE)):Prop:=List.rec (motive:=λ_=>Prop) True (λp _ ih=>((match look A.m (h p.1)with
 |some x=>some (x.inf 0)
 |none=>none)=some ((p.2.ren h).inf 0))/\ih) m
def pV(l r:List Nat):Bool:=List.rec (motive:=λ_=>Bool) true (λk _ ih=>match fe k r with
 |true=>ih
 |false=>false) l
def mF(A:AS)(h fg:Nat ->Nat)(m:List (Nat×SE)):Bool:=List.rec (motive:=λ_=>Bool) true (λp _ ih=>match p.2.fl with
 |some 0=>match Nat.beq 0 (fg (h p.1))with
  |true=>ih
  |false=>false
 |some _=>match Nat.beq (su' (look A.m (h p.1))) (fg (h p.1))with
  |true=>ih
  |false=>false
 |none=>ih) m
structure uS(A:AS)(h:Nat ->Nat)(aes bs:List AV)(m:List (Nat×SE)):Prop where
 r:oY A h aes bs
 e:nQ (A.upd [] (bM A (kpv aes bs))) h m
 f:lF m 0=true
 d:pV ((keysOf m).map h) (deepK A (refsA aes))=true
structure yP(A:AS)(h fg:Nat ->Nat)(aes bs:List AV)(m m':List (Nat×SE))(a:AV):Prop extends uS A h aes bs m where
 i:dc h (keysOf m++newK m m')=true
 i':dc h (keysOf m')=true
 p:jT m m'=true
 l:gS ⟨[],m'⟩ (a.refs++kF m')=true
 g:mF (A.upd [] (bM A (kpv aes bs))) h fg m'=true
def sV(q:Option Addr×Nat×Nat):Value:=.slice q.1 q.2.1 q.2.2
theorem uT(os:List (Option Addr×Nat×Nat)):(os.map λq=>[sV q]).flatten=os.map sV:=by
 induction os with
 |nil=>rfl
 |cons u r a=>rw[List.map_cons,List.flatten_cons,a];rfl
theorem DV':∀{css:List (List Value)},(∀us∈css,∃q,us=[sV q]) ->∃os:List (Option Addr×Nat×Nat),css=os.map λq=>[sV q]
 |[],_=>⟨[],rfl⟩
 |c::r,h=>by
  obtain⟨q,rfl⟩:=h c (List.mem_cons_self ..);obtain⟨os,rfl⟩:=DV' λus a=>h us (List.mem_cons_of_mem _ a);exact⟨q::os,rfl⟩
def uU(P:Program)(f:FuncId)(e:Nat):Prop:=dO P f/\∀(w:World) (v:Value) (os:List (Option Addr×Nat×Nat)),os.length<=100000 ->w.ownsRow 0 e 1 v os.length (os.map sV) ->Calls P f #[v] w λex w'=>ex= .returned (.tuple #[])/\Kp (blk v).toList w w'/\w'.ownsRow 0 e 1 v os.length (os.reverse.map sV)
structure gU(P:Program)(n:Nat)(o:Oper)(A:AS)(k:Kk)(pn:List PanicEntry ->List Nat ->Prop)(f:FuncId)(aes:List AV)(q q' qc:Option (List PV)):Prop where
 go:(∃h fg bs m m' a,VG P f bs m (.ok (a,m'))/\yP A h fg aes bs m m' a/\fin n o.dst (a.ren h) λwr=>k wr (jc fg h m m'++bM A (kpv aes bs)) ((newK m m').map h)) \/
  (∃h bs m ch,VG P f bs m (.error ch)/\uS A h aes bs m/\dc h (keysOf m)=true/\pn ch ((keysOf m).map h)) \/
  (∃ps r,VG P f (vals ps) [] (.ok (.c (.p r),[]))/\r.flat=true/\cM A aes=some ps/\fin n o.dst (.c (.p r)) λwr=>k wr [] []) \/
  ∃j e l,uU P f e/\aes=[.c (.row j)]/\look A.m j=some (.rw e 1 l)/\(l.length<=100000/\∀x∈l,∃t,x=[.sl t])/\fin n o.dst (.c (.p (.tup []))) λwr=>k wr [(j,.rw e 1 l.reverse)] []
section
variable{w0:World}{X0:List Nat}{C0:Mem}{P:Program}{τ:Tau}{n:Nat}{o:Oper}{A A':AS}{k:Kk}{s s':St}{w w':World}{C C':Mem}{ρ:Nat ->Value}{h fg:Nat ->Nat}{m m':List (Nat×SE)}
theorem D9{l r:List Nat}(h:pV l r=true):∀k∈l,k∈r:=by
 induction l with
 |nil=>intro k a;cases a
 |cons x l b=>
  have h:(match fe x r with
   |true=>pV l r
   |false=>false)=true:=h
  split at h
  ·rename_i c
   intro k a;rcases List.mem_cons.1 a with rfl|a
   ·exact rH c
   ·exact b h k a
  ·cases h
theorem Ea(h1:mF A h fg m=true):∀p∈m,(p.2.fl=some 0 ->0=fg (h p.1))/\∀g,p.2.fl=some (g+1) ->su' (look A.m (h p.1))=fg (h p.1):=by
 induction m with
 |nil=>intro p c;cases c
 |cons x r j=>
  have h1:(match x.2.fl with
   |some 0=>match Nat.beq 0 (fg (h x.1))with
    |true=>mF A h fg r
    |false=>false
   |some _=>match Nat.beq (su' (look A.m (h x.1))) (fg (h x.1))with
    |true=>mF A h fg r
    |false=>false
   |none=>mF A h fg r)=true:=h1
  have d:mF A h fg r=true/\((x.2.fl=some 0 ->0=fg (h x.1))/\∀g,x.2.fl=some (g+1) ->su' (look A.m (h x.1))=fg (h x.1)):=by
   split at h1
   ·rename_i b
    split at h1
    ·rename_i i
     exact⟨h1,λ_=>QJ i,λg a=>by rw[b]at a;cases a⟩
    ·cases h1
   ·rename_i g a b
    split at h1
    ·rename_i i
     exact⟨h1,λe=>by rw[b]at e;exact absurd (JB e) a,λg a=>QJ i⟩
    ·cases h1
   ·rename_i b
    exact⟨h1,(λe=>by rw[b]at e;cases e),λg a=>by rw[b]at a;cases a⟩
  intro p c;rcases List.mem_cons.1 c with rfl|c
  ·exact d.2
  ·exact j d.1 p c
theorem Eb(h1:nQ A h m):Ents A h m:=by
 induction m with
 |nil=>intro p a;cases a
 |cons x r c=>
  obtain⟨b,d⟩:=(show (_/\nQ A h r)from h1)
  intro p a;rcases List.mem_cons.1 a with rfl|a
  ·split at b
   ·rename_i y e
    exact⟨y,e,JB b⟩
   ·cases b
  ·exact c d p a
theorem tP':∀{aes bs:List AV},∀k∈kpv aes bs,k∈refsA aes
 |[],_,k,c=>by cases c
 |_::_,[],k,c=>by cases c
 |a::r,b::s,k,c=>by
  simp only[kpv]at c;show k∈a.refs++refsA r;rcases List.mem_append.1 c with c|c
  ·split at c
   ·exact QW _ c
   ·cases c
  ·exact QV _ (tP' k c)
theorem kG(ps:List PV):(vals ps).length=ps.length:=KF _
theorem yQ(p:∀b o v,C b o v ->C' b o v):∀{aes bs:List AV} {vs:List Value},oY A h aes bs ->vs.length=aes.length ->(∀(i:Nat) a v,aes[i]?=some a ->vs[i]?=some v ->RA C ρ a v) ->(∀k∈kpv aes bs,∀l,((∃e sz,look A.m k=some (.rw e sz l)) \/look A.m k=some (.fz l)) ->RV C' (.sl l) (ρ k)) ->vs.length=bs.length/\∀(i:Nat) b v,bs[i]?=some b ->vs[i]?=some v ->RA C' (λk=>ρ (h k)) b v
 |[],[],vs,_,hl,_,_=>⟨hl,λi b v hb=>by simp at hb⟩
 |a::r,b::t,B::vs,hr,hl,y,j=>by
  obtain⟨h1,h2⟩:=(show D8 A h a b/\oY A h r t from hr)
  obtain⟨D,E⟩:=yQ p (vs:=vs) h2 (by simpa using hl) (λi a v F c=>y (i+1) a v F c) λk g=>j k (by simp only[kpv];exact QV _ g);refine⟨by simp[D],λi d v z c=>?_⟩;cases i with
  |succ i=>exact E i d v z c
  |zero=>
   obtain rfl:=JB z;obtain rfl:=JB c;have u:=y 0 a B rfl rfl;rcases h1 with h1|⟨rfl,h1⟩
   rotate_left
   ·exact(u.mono p).eqv λk j=>by rw[h1]at j;cases j
   split at h1
   ·rename_i x
    exact yt h1 (u.mono p) λk g=>j k (by simp only[kpv];exact QW _ g)
   ·subst h1
    exact RA.ren_iff.1 (u.mono p)
 |[],_::_,_,hr,_,_,_=>hr.elim
 |_::_,[],_,hr,_,_,_=>hr.elim
 |_::_,_::_,[],_,hl,_,_=>by simp at hl
theorem Ka{l r:List Nat}(h:∀k∈l,k∈r):∀k∈deepK A l,k∈deepK A r:=by
 have b:∀{l r:List Nat},(∀k∈l,k∈r) ->∀k∈seR A l,k∈seR A r:=λ{l r} h=>by
  have d:∀{r:List Nat} {j:Nat},j∈r ->∀k∈(match look A.m j with
    |some x=>x.refs
    |none=>[]),k∈seR A r:=λ{r j} c k a=>by
   induction r with
   |nil=>cases c
   |cons x r e=>
    show k∈(match look A.m x with
     |some x=>x.refs
     |none=>[])++seR A r
    rcases List.mem_cons.1 c with rfl|c
    ·exact QW _ a
    ·exact QV _ (e c)
  induction l with
  |nil=>intro k a;cases a
  |cons x l e=>
   intro k a;have a:k∈(match look A.m x with
    |some x=>x.refs
    |none=>[])++seR A l:=a
   rcases List.mem_append.1 a with a|a
   ·exact d (h x Ud) k a
   ·exact e (λk a=>h k (by simp[a])) k a
 intro k a;unfold deepK at a ⊢;simp only[JW]at a ⊢;rcases a with a|a|a|a
 ·exact .inl (h k a)
 ·exact .inr (.inl (b h k a))
 ·exact .inr (.inr (.inl (b (b h) k a)))
 ·exact .inr (.inr (.inr (b (b (b h)) k a)))
theorem Rp.modR{X:List Nat}{A':AS}(h:Rp w0 X C0 A' s w C ρ){j e sz:Nat}{l p:List (List PV)}(hm:look A'.m j=some (.rw e sz l))(b:Kp (blk (ρ j)).toList w w'){wr:List (Nat×AV)}(K:RE w0.heap.size X (A'.upd wr [(j,.rw e sz p)]) C ρ w' j (.rw e sz p))
  (L:∀t a,look wr t=some a ->∃v,get s'.e t=some v/\RA C ρ a v) (u:∀t,look wr t=none ->get s'.e t=get s.e t):
  Rp w0 X C0 (A'.upd wr [(j,.rw e sz p)]) s' w' C ρ:=by
 have B:∀(k:Nat) x,look [(j,SE.rw e sz p)] k=some x ->x.alive=true ->k∈([]:List Nat) \/∃y,look A'.m k=some y/\y.alive=true:=λk x c _=>by
  obtain⟨rfl,rfl⟩:=bU c;exact .inr ⟨_,hm,rfl⟩
 refine h.step [] (λ_ _=>rfl) (λk b=>by cases b) (λk b=>by cases b) B b (λz M=>⟨j,_,_,mA _ _ _,hm,rfl,by simpa using M⟩) (λ_ _ _ h=>h) (h.sub.kp b λg o v D r=>h.off j _ g g o v hm rfl (by simpa using r) D rfl) (λ_ _ _ h=>.inl ⟨_,_,h⟩) (λk x c=>?_) (λk x g c N r=>?_) (λt a E _=>L t a E) u
 ·obtain⟨rfl,rfl⟩:=bU c
  exact K
 ·obtain⟨rfl,rfl⟩:=bU c
  refine⟨λi y d O F H=>?_,λQ o v D e=>?_⟩
  ·rcases look_app_some O with I|⟨_,I⟩
   ·exact d (bU I).1
   ·exact h.sep i k y _ g d I F hm rfl H r
  ·exact h.off k _ g Q o v hm rfl r D e
theorem Ec{pn:List PanicEntry ->List Nat ->Prop}{f:FuncId}{aes:List AV}{q q' qc:Option (List PV)}(b0:ja' o.op=2)(b4:∀k∈refsA aes,k∈refsOf A (av' o.op))
  (M:∀A' s w C ρ,Agr (ja' o.op) A A' (av' o.op) ->Rp w0 X0 C0 A' s w C ρ ->∃vs:List Value,vs.length=aes.length/\(∀(i:Nat) a v,aes[i]?=some a ->vs[i]?=some v ->RA C ρ a v)/\∀(K:St ->World ->Prop) (kp:List PanicEntry ->St ->World ->Prop),EvCall P f vs.toArray w (λv w'=>put n s o.dst v λs'=>K s' w') (λch w'=>kp ch s w') ->aW P τ n o s w K kp)
  (h:gU P n o A k pn f aes q q' qc):rC w0 X0 C0 P τ n o A k pn:=by
 have a0:∀A',Agr (ja' o.op) A A' (av' o.op) ->∀k∈deepK A (refsA aes),look A'.m k=look A.m k:=λA' N k d=>N.d b0 k (Ka b4 k d);have rows:∀{aes Q:List AV} (k:Nat),k∈kpv aes Q ->k∈deepK A (refsA aes):=λk d=>QW _ (tP' k d);have a7:∀{A':AS} {ks:List Nat} {h:Nat ->Nat} {m:List (Nat×SE)},(∀k∈deepK A (refsA aes),look A'.m k=look A.m k) ->pV ((keysOf m).map h) (deepK A (refsA aes))=true ->(∀k∈ks,k∈deepK A (refsA aes)) ->nQ (A.upd [] (bM A ks)) h m ->Ents (A'.upd [] (bM A ks)) h m:=λY hs c8 hE p R=>by
  obtain⟨x,h1,Z⟩:=Eb hE p R;refine⟨x,?_,Z⟩;have d:=Y _ (D9 hs _ (QD (by rw[mD];exact QD (f:=(·.1)) R)));rcases look_app_some h1 with h3|⟨h3,h4⟩
  ·exact Jn h3
  ·exact(rx h3).trans (by rw[d];exact h4)
 rcases h.go with ⟨h,fg,Q,m,m',a,⟨U,B⟩,E,d⟩|⟨h,Q,m,ch,⟨U,B⟩,E,hi,d⟩|⟨ps,r,⟨U,B⟩,a5,R,d⟩|⟨j,e,l,hV,rfl,hj,⟨c9,b5⟩,d⟩
 ·obtain⟨wr,d,hw,F⟩:=kC d
  refine .inl ⟨wr,_,_,d,λA' s w K kp N hN D hK=>?_⟩;obtain⟨C,ρ,D⟩:=D;have Y:=a0 A' N;obtain⟨C1,I,V,H⟩:=D.frz (kpv aes Q) λk d=>Y k (rows k d);obtain⟨vs,g1,g2,run⟩:=M A' s w C ρ N D;obtain⟨v1,v2⟩:=yQ V E.r g1 g2 H;have hE:=a7 Y E.d rows E.e;have a8:dc h (keysOf m)=true:=rN E.i;refine run K kp ?_;unfold EvCall;refine⟨U,(B w _ C1 _ vs v1 (I.into hE a8 E.f v1 v2)).mono λe w' he=>?_⟩;obtain⟨v,C2,b6,rfl,a4⟩:=he;have a5:∀p∈m',p.2.fl≠none ->su' (look (A'.upd [] (bM A (kpv aes Q))).m (h p.1))=fg (h p.1):=λp R b7=>by
   obtain⟨h1,Z⟩:=Ea E.g p R;obtain⟨c1,c2⟩:=uR E.p p R;have b8:p.1∈keysOf m':=by rw[mD];exact QD (f:=(·.1)) R
   cases hg:p.2.fl with
   |none=>exact absurd hg b7
   |some g=>
    by_cases hm:p.1∈keysOf m
    ·obtain⟨y,hy⟩:∃y,(p.1,y)∈m:=by
      rw[mD]at hm;obtain⟨q,hq,e⟩:=List.mem_map.1 hm;exact⟨q.2,by rw[<- e];exact hq⟩
     have b9:∃g',g=g'+1:=by
      rcases c1 y (oV a8 hy)with ⟨g2,W,e2,_⟩|W
      ·rw[hg]at W
       obtain rfl:=JB W;obtain⟨q,hq,_⟩:=oW (ρ:=ρ) E.f _ hy g e2;exact⟨q,Uo⟩
      ·rw[(rL hg).2]at W
       cases W
     obtain⟨g',rfl⟩:=b9;rw[<- Z g' hg];have d:=Y _ (D9 E.d _ (QD hm));have:look (A'.upd [] (bM A (kpv aes Q))).m (h p.1)=look (A.upd [] (bM A (kpv aes Q))).m (h p.1):=by
      show look (_++A'.m) _=look (_++A.m) _;rw[lC,lC,d]
     rw[this]
    ·have b':look m p.1=none:=by
      cases hq:look m p.1 with
      |none=>rfl
      |some x=>exact absurd (iE (by rw[hq];simp)) hm
     have c0:g=0:=by
      rcases c2 b' with e|e
      ·rw[hg]at e;exact JB e
      ·rw[hg]at e;cases e
     subst c0;rw[<- h1 hg];have hn:=((hN (h p.1) (QD (mE.2 ⟨b8,hm⟩))).frz (A:=A) (kpv aes Q)).un;cases hq:look (A'.upd [] (bM A (kpv aes Q))).m (h p.1)with
     |none=>rfl
     |some x=>
      have:=hn x hq;cases x<;>first|rfl|cases this
  refine F s v _ λs' h1 Z h3=>hK s' w' ?_ h3;have:=I.back (s':=s') (wr:=wr) hE E.i E.i' E.f E.p E.l (λk d=>(hN k d).frz _) a5 a4 (λt b L=>⟨hw t b L,h1 t b L⟩) Z;rw[show A'.upd wr (jc fg h m m'++bM A (kpv aes Q))=(A'.upd [] (bM A (kpv aes Q))).upd wr (jc fg h m m') by simp[AS.upd]];exact this
 ·refine .inr ⟨ch,_,d,λA' s w K kp N D hK=>?_⟩
  obtain⟨C,ρ,D⟩:=D;have Y:=a0 A' N;obtain⟨C1,I,V,H⟩:=D.frz (kpv aes Q) λk d=>Y k (rows k d);obtain⟨vs,g1,g2,run⟩:=M A' s w C ρ N D;obtain⟨v1,v2⟩:=yQ V E.r g1 g2 H;have hE:=a7 Y E.d rows E.e;refine run K kp ?_;unfold EvCall;refine⟨U,(B w _ C1 _ vs v1 (I.into hE hi E.f v1 v2)).mono λe w' he=>?_⟩;obtain⟨rfl,O⟩:=he;exact hK w' (D.kill O λz hz=>by
   obtain⟨p,R,x,h1,Z,h3⟩:=D7 I hE hz;refine⟨_,QD (by rw[mD];exact QD (f:=(·.1)) R),x,?_,Z,h3⟩;rcases look_app_some h1 with h4|⟨_,h4⟩
   ·obtain⟨_,_,_,_,_,rfl⟩:=lD h4
    cases Z
   ·exact h4)
 ·obtain⟨wr,d,hw,F⟩:=kC d
  refine .inl ⟨wr,_,_,d,λA' s w K kp N _ D hK=>?_⟩;obtain⟨C,ρ,D⟩:=D;have Y:=a0 A' N;obtain⟨C1,I,V,H⟩:=D.frz (refsA aes) λk d=>Y k (QW _ d);obtain⟨vs,g1,g2,run⟩:=M A' s w C ρ N D;obtain⟨p1,p2⟩:=pe' R;refine run K kp ?_;unfold EvCall;have a9:vs.length=(vals ps).length:=by rw[kG];omega
  refine⟨U,(B w _ C1 _ vs a9 (I.into (h:=id) (m:=[]) (λp R=>by cases R) rfl rfl a9 λi b v L hv=>?_)).mono λe w' he=>?_⟩
  ·unfold vals at L
   rw[JX]at L;cases S:ps[i]? with
   |none=>rw[S]at L;cases L
   |some x=>
    rw[S]at L;obtain rfl:=JB L;have hi:=aL S;have ha:aes[i]?=some aes[i]:=gE;obtain⟨x',q1,q2⟩:=p2 i _ ha;rw[S]at q1;obtain rfl:=JB q1;exact yt q2 ((g2 i _ v ha hv).mono V) λk d=>H k (DM (JQ ha) d)
  ·obtain⟨v,C2,b6,rfl,a4⟩:=he
   refine F s v _ λs' h1 Z h3=>hK s' w' ⟨C,ρ,?_⟩ h3;have O:Kp [] w w':=a4.kp;have c3:=D.grow O (D.sub.tr O) (λ_ _ _ h=>h) λb o v h=>.inl ⟨_,_,h⟩;obtain⟨v',W,e2⟩:=a4.slot 0 _ rfl λk d=>by cases d
   obtain rfl:v'=v:=by
    have W:some v=some v':=W;exact(JB W).symm
   have e2:RV C2 r v':=e2;refine c3.slots (wr:=wr) (s':=s') (λt b L _=>⟨v',h1 t b L,?_⟩) Z;have:=hw t b L;subst this;exact e2.flat a5
 ·obtain⟨wr,d,hw,F⟩:=kC d
  refine .inl ⟨wr,_,_,d,λA' s w K kp N _ D hK=>?_⟩;obtain⟨C,ρ,D⟩:=D;have a':look A'.m j=some (.rw e 1 l):=(a0 A' N j (QW _ (List.mem_singleton_self j))).trans hj;obtain⟨vs,g1,g2,run⟩:=M A' s w C ρ N D;obtain⟨v,rfl⟩:∃v,vs=[v]:=by
   match vs,g1 with
   |[v],_=>exact⟨v,rfl⟩
  obtain rfl:v=ρ j:=g2 0 _ v rfl rfl;obtain⟨c4,⟨ho,c5⟩,a1,a2,a3⟩:=D.ent j _ a';obtain⟨os,rfl⟩:∃os:List (Option Addr×Nat×Nat),c4=os.map λq=>[sV q]:=DV' λus c6=>by
   obtain⟨i,hi⟩:=JH c6;have a6:=aL hi;have S:=List.getElem?_eq_getElem (l:=l) (i:=i) Uo;obtain⟨q1,q2⟩:=a3 i us _ hi S;obtain⟨t,ht⟩:=b5 _ (JQ S)
   match us,q1 with
   |[u],_=>
    obtain⟨a,n,c,hu⟩:∃a n c,u= .slice a n c:=by
     obtain⟨a,c,e⟩:=RV.slv (q2 0 _ u (by rw[ht];rfl) rfl).2;exact⟨a,_,c,e⟩
    exact⟨(a,n,c),by rw[hu];rfl⟩
  rw[KF]at a2;rw[uT,<- a2]at ho;refine run K kp ?_;unfold EvCall;refine⟨hV.1,(hV.2 w (ρ j) os Uo ho).mono λex w' ⟨W,O,c7⟩=>?_⟩;subst W;refine F s (.tuple #[]) _ λs' b1 b2 b3=>hK s' w' ⟨C,ρ,D.modR a' O ⟨(os.map λq=>[sV q]).reverse,⟨by rw[List.length_reverse,<- List.map_reverse,uT,<- a2];exact c7,c5⟩,λx S=>a1 x (List.mem_reverse.1 S),by simp[a2],λi us x hi S=>?_⟩ (λt b L=>⟨_,b1 t b L,by rw[hw t b L];exact RV.tup [] [] rfl λi y u hy=>by simp at hy⟩) b2⟩ b3;have a6:=aL hi;rw[List.length_reverse,KF]at a6;rw[List.getElem?_reverse (by rw[KF];exact a6),KF]at hi;rw[List.getElem?_reverse Uo,<- a2]at S;exact a3 _ us x hi S
end
section
variable(P:Program)(f:FuncId)(ps:List PV)
def VC(r:PV):Prop:=VG P f (vals ps) [] (.ok (.c (.p r),[]))
def VO(e sz:Nat)(l:List (List PV)):Prop:=VG P f (vals ps) [] (.ok (.c (.row 0),[(0,.rw e sz l)]))
def VN(T:Nat)(cs:List PV):Prop:=VG P f (vals ps) [] (.ok (.c (.ptr 0 0),[(0,.st 0 T (cs.map .p))]))
def VE(ch:List PanicEntry):Prop:=VG P f (vals ps) [] (.error ch)
def VX:Except (List PanicEntry) PV ->Prop
 | .ok r=>VC P f ps r
 | .error ch=>VE P f ps ch
end
section
variable(P:Program)(f:FuncId)(T:Nat)(cs:List PV)
def VP(cs' ps:List PV)(r:PV):Prop:=VG P f (.c (.ptr 0 0)::vals ps) [(0,.st 1 T (cs.map .p))] (.ok (.c (.p r),[(0,.st 1 T (cs'.map .p))]))
def Ed(ps:List PV)(ch:List PanicEntry):Prop:=VG P f (.c (.ptr 0 0)::vals ps) [(0,.st 1 T (cs.map .p))] (.error ch)
def ju(ps:List PV):Except (List PanicEntry) (List PV×PV) ->Prop
 | .ok (cs',r)=>VP P f T cs cs' ps r
 | .error ch=>Ed P f T cs ps ch
end
def kH(o:Oper):Nat:=match o.dst with
 |some d=>d
 |none=>0
section
variable{P:Program}{n:Nat}{o:Oper}{A:AS}{k:Kk}{pn:List PanicEntry ->List Nat ->Prop}{f:FuncId}{aes:List AV}{q q' qc:Option (List PV)}
theorem oZ(h:Nat ->Nat):∀{aes:List AV} {ps:List PV},cM A aes=some ps ->oY A h aes (vals ps)/\kpv aes (vals ps)=refsA aes
 |[],ps,b=>by
  obtain rfl:=JB b;exact⟨VQ,rfl⟩
 |a::r,ps,b=>by
  have b:(match oS A a with
   |some y=>match cM A r with
    |some r=>some (y::r)
    |none=>none
   |none=>none)=some ps:=b
  split at b
  ·rename_i y d
   split at b
   ·rename_i i c
    obtain rfl:=JB b;obtain⟨e,g⟩:=oZ h c;exact⟨⟨.inl d,e⟩,KG (a.refs++ ·) g⟩
   ·cases b
  ·cases b
theorem uV(h:Nat ->Nat){ps:List PV}(a:cM A aes=some ps):uS A h aes (vals ps) []:=⟨(oZ h a).1,VQ,rfl,rfl⟩
theorem af{ps:List PV}{r:PV}(h:VC P f ps r)(b:fin n o.dst (.c (.p r)) λwr=>k wr (bM A (refsA aes)) [])(a:cM A aes=some ps:=by rfl):gU P n o A k pn f aes (some ps) q' qc:=
 ⟨.inl ⟨id,λ_=>0,vals ps,[],[],_,h,⟨uV id a,rfl,rfl,rfl,rfl,rfl⟩,by rw[(oZ id a).2];exact b⟩⟩
theorem gV{ps:List PV}{e sz:Nat}{l:List (List PV)}(h:VO P f ps e sz l)(b:fin n o.dst (.c (.row (kH o))) λwr=>k wr ((kH o,.rw e sz l)::bM A (refsA aes)) [kH o])(a:cM A aes=some ps:=by rfl):gU P n o A k pn f aes (some ps) q' qc:=
 ⟨.inl ⟨λ_=>kH o,λ_=>0,vals ps,[],_,_,h,⟨uV _ a,rfl,rfl,rfl,rfl,rfl⟩,by rw[(oZ (λ_=>kH o) a).2];exact b⟩⟩
theorem Kb{ps:List PV}{T:Nat}{cs:List PV}(h:VN P f ps T cs)(b:fin n o.dst (.c (.ptr (kH o) 0)) λwr=>k wr ((kH o,.st 0 T (cs.map .p))::bM A (refsA aes)) [kH o])(a:cM A aes=some ps:=by rfl):gU P n o A k pn f aes (some ps) q' qc:=
 ⟨.inl ⟨λ_=>kH o,λ_=>0,vals ps,[],_,_,h,⟨uV _ a,rfl,rfl,rfl,by
  have:∀l:List PV,refsL (l.map .p)=[]:=λl=>by
   induction l with
   |nil=>rfl
   |cons x r d=>exact d
  show gS _ ([0]++(refsL (cs.map .p)++[]))=true;rw[this]
  rfl,rfl⟩,by
  have:(cs.map AC.p).map (AC.ren λ_=>kH o)=cs.map .p:=by rw[List.map_map];rfl
  rw[(oZ (λ_=>kH o) a).2];simp only[jc,List.map_cons,List.map_nil,SE.ren,SE.inf,this];exact b⟩⟩
theorem bV{ps:List PV}{ch:List PanicEntry}(h:VE P f ps ch)(a:pn ch [])(b:cM A aes=some ps:=by rfl):gU P n o A k pn f aes (some ps) q' qc:=⟨.inr (.inl ⟨id,vals ps,[],ch,h,uV id b,rfl,a⟩)⟩
theorem nR{ps:List PV}{r:PV}(h:VC P f ps r)(a:fin n o.dst (.c (.p r)) λwr=>k wr [] [])(b:r.flat=true:=by rfl)(d:cM A aes=some ps:=by rfl):gU P n o A k pn f aes (some ps) q' qc:=⟨.inr (.inr (.inl ⟨ps,r,h,b,d,a⟩))⟩
theorem rO{j e:Nat}{l:List (List PV)}(h:uU P f e)(a:fin n o.dst (.c (.p (.tup []))) λwr=>k wr [(j,.rw e 1 l.reverse)] [])(hl:l.length<=100000/\∀x∈l,∃t,x=[.sl t])(b:look A.m j=some (.rw e 1 l):=by rfl):gU P n o A k pn f [.c (.row j)] q q' qc:=⟨.inr (.inr (.inr ⟨j,e,l,h,rfl,b,hl,a⟩))⟩
theorem Kc(l:List PV):refsL (l.map .p)=[]:=by
 induction l with
 |nil=>rfl
 |cons x r a=>exact a
theorem rR(h:Nat ->Nat)(l:List PV):(l.map AC.p).map (AC.ren h)=l.map .p:=by rw[List.map_map];rfl
theorem yR{j:Nat}{x:SE}{ks:List Nat}(a:look A.m j=some x)(c:x.fl≠none):look (A.upd [] (bM A ks)).m j=some x:=by
 show look (bM A ks++A.m) j=_;rw[rx]
 ·exact a
 ·cases d:look (bM A ks) j with
  |none=>rfl
  |some y=>
   obtain⟨_,e,g,l,b,_⟩:=lD d;rw[a]at b;obtain rfl:=JB b;exact absurd rfl c
theorem rS{j g T:Nat}{cs ps:List PV}(a:cM A aes=some ps)(b:look A.m j=some (.st g T (cs.map .p))):uS A (λ_=>j) (.c (.ptr j 0)::aes) (.c (.ptr 0 0)::vals ps) [(0,.st 1 T (cs.map .p))]:=⟨⟨.inl rfl,(oZ _ a).1⟩,⟨by
  show (match look (A.upd [] (bM A (kpv (.c (.ptr j 0)::aes) (.c (.ptr 0 0)::vals ps)))).m j with
   |some x=>some (x.inf 0)
   |none=>none)=some (.st 0 T ((cs.map .p).map (AC.ren λ_=>j)))
  rw[yR b (by simp[SE.fl]),rR]
  rfl,VQ⟩,rfl,by
  show (match fe j (deepK A ([j]++refsA aes))with
   |true=>true
   |false=>false)=true
  rw[nO (by simp[deepK])]⟩
theorem ay{j:Nat}{g T:Nat}{cs cs' ps:List PV}{r:PV}(h:VP P f T cs cs' ps r)(d:fin n o.dst (.c (.p r)) λwr=>k wr ((j,.st g T (cs'.map .p))::bM A (refsA aes)) [])(a:look A.m j=some (.st g T (cs.map .p)):=by rfl)(b:cM A aes=some ps:=by rfl):gU P n o A k pn f (.c (.ptr j 0)::aes) q (some ps) (some cs):=
 ⟨.inl ⟨λ_=>j,λ_=>g,_,_,_,_,h,⟨rS b a,rfl,rfl,rfl,by
  show gS _ ([]++(refsL (cs'.map .p)++[]))=true;rw[Kc]
  rfl,by
  show (match Nat.beq (su' (look (A.upd [] (bM A (kpv (.c (.ptr j 0)::aes) (.c (.ptr 0 0)::vals ps)))).m j)) g with
   |true=>true
   |false=>false)=true
  rw[yR a (by simp[SE.fl])];show (match Nat.beq g g with
   |true=>true
   |false=>false)=true
  rw[Nat.beq_refl]⟩,by
  have e:kpv (.c (.ptr j 0)::aes) (.c (.ptr 0 0)::vals ps)=refsA aes:=(oZ (λ_=>j) b).2;rw[e];simp only[jc,List.map_cons,List.map_nil,SE.ren,SE.inf,rR];exact d⟩⟩
theorem cH{j:Nat}{g T:Nat}{cs ps:List PV}{ch:List PanicEntry}(h:Ed P f T cs ps ch)(a:pn ch [j])(b:look A.m j=some (.st g T (cs.map .p)):=by rfl)(d:cM A aes=some ps:=by rfl):gU P n o A k pn f (.c (.ptr j 0)::aes) q (some ps) (some cs):=⟨.inr (.inl ⟨λ_=>j,_,_,ch,h,rS d b,rfl,a⟩)⟩
theorem aZ(h fg:Nat ->Nat){bs:List AV}{m m':List (Nat×SE)}{a:AV}(hc:VG P f bs m (.ok (a,m')))(b:fin n o.dst (a.ren h) λwr=>k wr (jc fg h m m'++bM A (kpv aes bs)) ((newK m m').map h))(hr:oY A h aes bs:=by repeat first|exact VQ|refine And.intro (.inl rfl) ?_|refine And.intro (.inr ⟨rfl,rfl⟩) ?_)(he:nQ (A.upd [] (bM A (kpv aes bs))) h m:=by repeat first|exact VQ|refine And.intro rfl ?_)(h1:lF m 0=true:=by rfl)(h2:pV ((keysOf m).map h) (deepK A (refsA aes))=true:=by rfl)(h3:dc h (keysOf m++newK m m')=true:=by rfl)(h4:dc h (keysOf m')=true:=by rfl)(c:jT m m'=true:=by rfl)(d:gS ⟨[],m'⟩ (a.refs++kF m')=true:=by rfl)(e:mF (A.upd [] (bM A (kpv aes bs))) h fg m'=true:=by rfl):gU P n o A k pn f aes q q' qc:=⟨.inl ⟨h,fg,bs,m,m',a,hc,⟨⟨hr,he,h1,h2⟩,h3,h4,c,d,e⟩,b⟩⟩
theorem mG(h:Nat ->Nat){bs:List AV}{m:List (Nat×SE)}{ch:List PanicEntry}(hc:VG P f bs m (.error ch))(a:pn ch ((keysOf m).map h))(hr:oY A h aes bs:=by repeat first|exact VQ|refine And.intro (.inl rfl) ?_|refine And.intro (.inr ⟨rfl,rfl⟩) ?_)(he:nQ (A.upd [] (bM A (kpv aes bs))) h m:=by repeat first|exact VQ|refine And.intro rfl ?_)(h1:lF m 0=true:=by rfl)(h2:pV ((keysOf m).map h) (deepK A (refsA aes))=true:=by rfl)(h3:dc h (keysOf m)=true:=by rfl):gU P n o A k pn f aes q q' qc:=⟨.inr (.inl ⟨h,bs,m,ch,hc,⟨hr,he,h1,h2⟩,h3,a⟩)⟩
end
section
variable{P:Program}{f:FuncId}
theorem Ee{C:Mem}{ρ:Nat ->Value}{ps:List PV}{vs:List Value}(d:db C ps vs):vs.length=(vals ps).length/\∀(i:Nat) b v,(vals ps)[i]?=some b ->vs[i]?=some v ->RA C ρ b v:=⟨by rw[kG];exact d.1,λi b v a e=>by
 unfold vals at a;rw[JX]at a;cases c:ps[i]? with
 |none=>rw[c]at a;cases a
 |some x=>
  rw[c]at a;obtain rfl:=JB a;exact d.2 i x v c e⟩
theorem Rp.zero{w:World}{C:Mem}{ρ:Nat ->Value}(X:List Nat)(d:Sub C w):Rp w X C ⟨[],[]⟩ ⟨[],[]⟩ w C ρ:=⟨λt a e=>(by cases e),λk x c=>(by cases c),λj k x y g _ c=>(by cases c),λk x g b o v c=>(by cases c),d,λ_ _ _ h=>h,λ_ _ _ h=>.inl ⟨_,_,h⟩,Kp.refl _ _⟩
theorem Ef{w w':World}{X:List Nat}{C C':Mem}{a:AV}{m:List (Nat×SE)}{v:Value}{ρ:Nat ->Value}(h:Rp w X C ⟨[(0,a)],m⟩ ⟨[(0,v)],[]⟩ w' C' ρ)(hl:Lv ⟨[(0,a)],m⟩ a.refs):RA C' ρ a v:=by
 obtain⟨c,b,d⟩:=h.slot 0 _ rfl hl;have b:some v=some c:=b;rw[JB b];exact d
theorem uW{w:World}{X:List Nat}{C:Mem}{ρ:Nat ->Value}{aes:List AV}{m:List (Nat×SE)}{vs:List Value}(hl:vs.length=aes.length)(h:Rp w X C ⟨kD' aes 0,m⟩ ⟨ini vs 0,[]⟩ w C ρ):∀(i:Nat) a v,aes[i]?=some a ->vs[i]?=some v ->Lv ⟨kD' aes 0,m⟩ a.refs ->RA C ρ a v:=λi a v u x e=>by
 have y:∀(aes:List AV) (j i:Nat) (a:AV),aes[i]?=some a ->look (kD' aes j) (j+i)=some a:=λaes=>by
  induction aes with
  |nil=>intro j i a h;simp at h
  |cons b r g=>
   intro j i a h;simp only[kD',cG];cases i with
   |zero=>
    obtain rfl:=JB h;simp only[Nat.add_zero,Nat.beq_refl]
   |succ i=>
    have c:Nat.beq j (j+(i+1))=false:=by
     cases c:Nat.beq j (j+(i+1))with
     |true=>have:=QJ c;omega
     |false=>rfl
    rw[c,show j+(i+1)=j+1+i by omega];exact g (j+1) i a h
 have z:∀(l:List Value) (j i:Nat) (v:Value),l[i]?=some v ->get (ini l j) (j+i)=some v:=λl=>by
  induction l with
  |nil=>intro j i v h;simp at h
  |cons b r g=>
   intro j i v h;simp only[ini,eQ];cases i with
   |zero=>
    obtain rfl:=JB h;simp only[Nat.add_zero,Nat.beq_refl]
   |succ i=>
    have c:Nat.beq j (j+(i+1))=false:=by
     cases c:Nat.beq j (j+(i+1))with
     |true=>have:=QJ c;omega
     |false=>rfl
    rw[c,show j+(i+1)=j+1+i by omega];exact g (j+1) i v h
 have p:=y aes 0 i a u;rw[KW]at p;obtain⟨B,d,D⟩:=h.slot i a p e;have t:=z vs 0 i v x;rw[KW]at t;have d:get (ini vs 0) i=some B:=d;rw[t]at d;rw[JB d];exact D
theorem VC.run{ps:List PV}{r:PV}(h:VC P f ps r):dO P f/\∀(w:World) (C:Mem) (vs:List Value),Sub C w ->db C ps vs ->Calls P f vs.toArray w (λe w'=>∃v C',e= .returned v/\RV C' r v/\rB C w C' w'):=⟨h.1,λw C vs d g=>by
 obtain⟨c,i⟩:=Ee (ρ:=λk=>(λ_=>undef) (id k)) g;refine(h.2 w [] C _ vs c ((Rp.zero (ρ:=λ_=>undef) [] d).into (h:=id) (m:=[]) (λp j=>by cases j) rfl rfl c i)).mono λe w' l=>?_;obtain⟨v,C',ρ',rfl,a⟩:=l;exact⟨v,C',rfl,Ef a λk t=>(by cases t),a.sub,a.c0,λb o v u=>(a.cn b o v u).imp id λh=>h.elim id λh=>(by cases h),a.kp⟩⟩
theorem VC.of{ps:List PV}{r:PV}(h:dO P f/\∀(w:World) (C:Mem) (vs:List Value),Sub C w ->db C ps vs ->Calls P f vs.toArray w (λe w'=>∃v C',e= .returned v/\RV C' r v/\rB C w C' w')):VC P f ps r:=⟨h.1,λw X C ρ vs u z=>(h.2 w C vs z.sub ⟨by rw[u,kG],λi x v d B=>uW u z i (.c (.p x)) v (by unfold vals;rw[JX,d];rfl) B λk D=>(by cases D)⟩).mono λe w' E=>by
 obtain⟨v,C',rfl,F,l⟩:=E;exact⟨v,C',ρ,rfl,λt a H u=>by
  obtain⟨rfl,rfl⟩:=bU H;exact⟨v,rfl,F⟩,λk x d=>(by cases d),λj k x y g _ d=>(by cases d),λk x g b o v d=>(by cases d),l.sub,l.c,λb o v I=>(l.n b o v I).imp id .inl,l.kp.weak Ud⟩⟩
theorem VO.of{ps:List PV}{e sz:Nat}{l:List (List PV)}(h:dO P f/\∀(w:World) (C:Mem) (vs:List Value),Sub C w ->db C ps vs ->Calls P f vs.toArray w (λH w'=>∃v C' css,H= .returned v/\w'.ownsRow w.heap.size e sz v l.length (List.flatten css)/\(∀x∈l,x.length=sz)/\css.length=l.length/\(∀(i:Nat) (us:List Value) x,css[i]?=some us ->l[i]?=some x ->us.length=sz/\∀(j:Nat) y u,x[j]?=some y ->us[j]?=some u ->u.oneCell'=true/\RV C' y u)/\rB C w C' w'/\∀g,blk v=some g ->∀b o u,C' b o u ->b≠g)):VO P f ps e sz l:=⟨h.1,λw X C ρ vs B I=>(h.2 w C vs I.sub ⟨by rw[B,kG],λi x v r K=>uW B I i (.c (.p x)) v (by unfold vals;rw[JX,r];rfl) K λk D=>(by cases D)⟩).mono λH w' L=>by
 obtain⟨v,C',css,rfl,M,N,O,Q,z,d⟩:=L;refine⟨v,C',λ_=>v,rfl,λt a R B=>?_,λk x r=>?_,λj k x y g E S _ D=>absurd ((bU S).1.trans (bU D).1.symm) E,λk x g b o u r _ U F=>d g U b o u F,z.sub,z.c,λb o v F=>(z.n b o v F).imp id .inl,z.kp.weak Ud⟩
 ·obtain⟨rfl,rfl⟩:=bU R
  exact⟨v,rfl,rfl⟩
 ·obtain⟨rfl,rfl⟩:=bU r
  exact⟨css,yb M (KJ _),N,O,Q⟩⟩
theorem Kd{T b:Nat}{cs ps:List PV}{w:World}{C:Mem}{us vs:List Value}(H:Sub C w)(I:Bk w.heap b us T)(D:db C cs us)(h1:∀u∈us,u.oneCell'=true)(l:∀z o v,C z o v ->z≠b)(hP:db C ps vs):Rp w [b] C ⟨kD' (.c (.ptr 0 0)::vals ps) 0,[(0,.st 1 T (cs.map .p))]⟩ ⟨ini (.pointer (some ⟨b,0,none⟩)::vs) 0,[]⟩ w C λ_=>.pointer (some ⟨b,0,none⟩):=by
 have K:Rp w [b] C ⟨[],[(0,.st 1 T (cs.map .p))]⟩ ⟨[],[]⟩ w C λ_=>.pointer (some ⟨b,0,none⟩):=by
  refine⟨λt a L=>(by cases L),λk x r=>?_,λj k x y g B M _ N=>absurd ((bU M).1.trans (bU N).1.symm) B,λk x g z o v r _ O d=>?_,H,λ_ _ _ h=>h,λ_ _ _ h=>.inl ⟨_,_,h⟩,Kp.refl _ _⟩
  ·obtain⟨rfl,rfl⟩:=bU r
   refine⟨b,us,rfl,I,.inr ⟨0,rfl,rfl⟩,by rw[D.1,KF],λi c u d E=>⟨h1 u (JQ E),λ_=>?_⟩⟩;rw[JX]at d;cases e:cs[i]? with
   |none=>rw[e]at d;cases d
   |some Q=>
    rw[e]at d;obtain rfl:=JB d;exact D.2 i Q u e E
  ·obtain rfl:=JB O
   exact l z o v d
 obtain⟨R,S⟩:=Ee (ρ:=λ_=>Value.pointer (some ⟨b,0,none⟩)) hP;have:=K.into (h:=id) (m:=[(0,.st 1 T (cs.map .p))]) (bs:=.c (.ptr 0 0)::vals ps) (vs:=.pointer (some ⟨b,0,none⟩)::vs) (λp U=>by
  obtain rfl:p=(0,.st 1 T (cs.map .p)):=by simpa using U
  exact⟨_,rfl,by show SE.st 0 T _=SE.st 0 T _;rw[rR]⟩) rfl rfl (by simp[R]) λi x v r F=>by
  cases i with
  |zero=>
   obtain rfl:=JB r;obtain rfl:=JB F;exact⟨b,rfl,rfl⟩
  |succ i=>exact S i x v r F
 exact this
theorem VP.run{T:Nat}{cs cs' ps:List PV}{r:PV}(h:VP P f T cs cs' ps r):dO P f/\∀(w:World) (C:Mem) (b:Nat) (us vs:List Value),Sub C w ->Bk w.heap b us T ->db C cs us ->(∀u∈us,u.oneCell'=true) ->(∀d o v,C d o v ->d≠b) ->db C ps vs ->
  Calls P f (.pointer (some ⟨b,0,none⟩)::vs).toArray w λe w'=>∃v C' us',e= .returned v/\RV C' r v/\Bk w'.heap b us' T/\db C' cs' us'/\(∀u∈us',u.oneCell'=true)/\Sub C' w'/\(∀b o v,C b o v ->C' b o v)/\(∀b o v,C' b o v ->Hb C b \/w.heap.size<=b)/\Kp [b] w w':=⟨h.1,λw C b us vs I K L M g hP=>(h.2 w [b] C _ _ (by simp[hP.1,kG]) (Kd I K L M g hP)).mono λe w' N=>by
 obtain⟨v,C',ρ',rfl,c⟩:=N;obtain⟨d,us',O,t,Q,F,j⟩:=c.ent 0 _ rfl;have y:d=b:=by
  rcases Q with ⟨H,_⟩|⟨i,H,l⟩
  ·cases H
  ·obtain rfl:i=0:=Uo
   exact(JB l).symm
 subst y;have a:∀(i:Nat) x u,cs'[i]?=some x ->us'[i]?=some u ->u.oneCell'=true/\RV C' x u:=λi x u B D=>by
  obtain⟨R,S⟩:=j i (.p x) u (by rw[JX,B];rfl) D;exact⟨R,S λz U=>by cases U⟩
 have E:∀b o v,C' b o v ->b≠d:=λb o v h=>c.off 0 _ d b o v rfl rfl (by rw[O];rfl) h;refine⟨v,C',us',rfl,Ef c λk V=>(by cases V),t,⟨by rw[F,KF],λi x v B W=>(a i x v B W).2⟩,λu D=>?_,c.sub,c.c0,λb o v j=>(c.cn b o v j).imp id λh=>h.elim id λh=>absurd (by simpa using h) (E b o v j),c.kp⟩;obtain⟨i,l⟩:=JH D;have Y:=aL l;rw[KF]at F;exact(a i _ u (gE) l).1⟩
theorem VP.of{T:Nat}{cs cs' ps:List PV}{r:PV}(h:dO P f/\∀(w:World) (C:Mem) (b:Nat) (us vs:List Value),Sub C w ->Bk w.heap b us T ->db C cs us ->(∀u∈us,u.oneCell'=true) ->(∀l o v,C l o v ->l≠b) ->db C ps vs ->
  Calls P f (.pointer (some ⟨b,0,none⟩)::vs).toArray w λe w'=>∃v C' us',e= .returned v/\RV C' r v/\Bk w'.heap b us' T/\db C' cs' us'/\(∀u∈us',u.oneCell'=true)/\Sub C' w'/\(∀b o v,C b o v ->C' b o v)/\(∀b o v,C' b o v ->Hb C b \/w.heap.size<=b)/\Kp [b] w w'):VP P f T cs cs' ps r:=⟨h.1,λw X C ρ vs H M=>by
 match vs,H with
 |v0::vs,H=>
 obtain⟨b,us,R,hB,ho,E,d⟩:=M.ent 0 _ rfl;have hb:X[0]?=some b:=by
  rcases ho with ⟨h0,_⟩|⟨i,h0,Q⟩
  ·cases h0
  ·obtain rfl:i=0:=Uo
   exact Q
 have S:v0= .pointer (some ⟨b,0,none⟩):=by
  obtain⟨l,q1,q2⟩:=uW H M 0 _ v0 rfl rfl λk I=>⟨_,by
   obtain rfl:k=0:=by simpa[AV.refs,AC.refs]using I
   exact rfl,rfl⟩
  rw[R]at q1;rw[q2];exact q1.symm
 subst S;have B:∀(i:Nat) x u,cs[i]?=some x ->us[i]?=some u ->u.oneCell'=true/\RV C x u:=λi x u D L=>by
  obtain⟨o1,o2⟩:=d i (.p x) u (by rw[JX,D];rfl) L;exact⟨o1,o2 λz U=>by cases U⟩
 have N:blk (ρ 0)=some b:=by rw[R];rfl
 rw[KF]at E;have F:∀l o v,C l o v ->l≠b:=λl o v d=>M.off 0 _ b l o v rfl rfl N d;refine(h.2 w C b us vs M.sub hB ⟨E,λi x v D V=>(B i x v D V).2⟩ (λu L=>?_) F ⟨by simp[kG]at H;exact H,λi x v D V=>uW H M (i+1) (.c (.p x)) v (by rw[List.getElem?_cons_succ];unfold vals;rw[JX,D];rfl) V λk I=>(by cases I)⟩).mono λe w' he=>?_
 ·obtain⟨i,Q⟩:=JH L
  have a2:=aL Q;exact(B i _ u (gE) Q).1
 ·obtain⟨v,C',us',rfl,hr,W,O,Y,Z,a0,hn,I⟩:=he
  refine⟨v,C',ρ,rfl,λt a ht H=>?_,λk x D=>?_,λj k x y g a1 hj _ I=>absurd ((bU hj).1.trans (bU I).1.symm) a1,λk x g l o v D _ hg d=>?_,Z,a0,λb o v d=>(hn b o v d).imp id .inl,I.weak (by
   intro z U;obtain rfl:z=b:=by simpa using U
   exact λ_=>JQ hb)⟩
  ·obtain⟨rfl,rfl⟩:=bU ht
   exact⟨v,rfl,hr⟩
  ·obtain⟨rfl,rfl⟩:=bU D
   refine⟨b,us',R,W,.inr ⟨0,rfl,hb⟩,by rw[O.1,KF],λi c u d L=>⟨Y u (JQ L),λ_=>?_⟩⟩;rw[JX]at d;cases K:cs'[i]? with
   |none=>rw[K]at d;cases d
   |some x'=>
    rw[K]at d;obtain rfl:=JB d;exact O.2 i x' u K L
  ·obtain⟨rfl,rfl⟩:=bU D
   rw[N]at hg;obtain rfl:=JB hg;rcases hn l o v d with ⟨o',v',h⟩|h
   ·exact F l o' v' h
   ·have:=hB.lt
    omega⟩
end
structure Eg(k:(Obj ->Prop) ->Prop):Prop where
 go:∃Q:Obj ->Prop,Q (.map #[] 0)/\k Q
structure yS(P:Program)(T:TypeId)(Q:Obj ->Prop)(key:AV)(ok:Bool)(k:PV ->Prop):Prop where
 go:∃r,(∀(C:Mem) (ρ:Nat ->Value) (kv:Value) (b:Nat) (w:World) (ob:Obj),RA C ρ key kv ->w.heap[b]?=some ob ->Q ob ->∃v,RV C r v/\(Instr.lookup T (.map (some b)) kv ok).run P w= .ok v w)/\k r
structure Eh(P:Program)(T:TypeId)(Q:Obj ->Prop)(key val:AV)(k:(Obj ->Prop) ->Prop):Prop where
 go:∃Q':Obj ->Prop,(∀(C:Mem) (ρ:Nat ->Value) (kv vv:Value) (b:Nat) (w:World) (ob:Obj),RA C ρ key kv ->RA C ρ val vv ->w.heap[b]?=some ob ->Q ob ->∃ob',Q' ob'/\(Instr.mapUpdate T (.map (some b)) kv vv).run P w= .ok () {w with heap:=w.heap.setIfInBounds b ob'})/\k Q'
theorem rU{k:(Obj ->Prop) ->Prop}(Q:Obj ->Prop)(a:k Q)(h:Q (.map #[] 0)):Eg k:=⟨Q,h,a⟩
def rV(l:List AV):Option (List Nat):=List.rec (motive:=λ_=>Option (List Nat)) (some []) (λa _ ih=>match a with
 | .c (.ptr k 0)=>match ih with
  |some r=>some (k::r)
  |none=>none
 | .c (.row k)=>match ih with
  |some r=>some (k::r)
  |none=>none
 |_=>none) l
def pW(A:AS)(l:List Nat):Bool:=List.rec (motive:=λ_=>Bool) true (λk _ ih=>match look A.m k with
 |some (.st _ _ _)=>ih
 |_=>false) l
def jU(l:List Nat):List AV:=l.map λk=>.c (.ptr k 0)
section
variable(P:Program)(n:Nat)(o:Oper)(A:AS)(k:Kk)
def yT(f:Fn)(aes:List AV):Prop:=match f,rV aes with
 | .func g,some ks=>out n o k (.c (.fn g ks))
 |_,_=>False
def HI':Prop:=match o.dst with
 |some d=>match Nat.ble (d+1) n with
  |true=>Eg λQ=>k [(d,.c (.row d))] [(d,.ob 0 Q)] [d]
  |false=>False
 |none=>False
def yU(T:TypeId)(ok:Bool)(a b:AV):Prop:=match a with
 | .c (.row j)=>match look A.m j with
  |some (.ob _ Q)=>yS P T Q b ok λr=>out n o k (.c (.p r))
  |_=>False
 |_=>False
def yV(T:TypeId)(a b c:AV):Prop:=match a with
 | .c (.row j)=>match look A.m j with
  |some (.ob g Q)=>Eh P T Q b c λQ'=>fin n o.dst (.c (.p (.raw undef))) λwr=>k wr [(j,.ob g Q')] []
  |_=>False
 |_=>False
end
section
variable{w0:World}{X:List Nat}{C0:Mem}{P:Program}{τ:Tau}{n:Nat}{o:Oper}{A A':AS}{k:Kk}{s:St}{w:World}{C:Mem}{ρ:Nat ->Value}
theorem zi':∀{l:List AV} {ks:List Nat},rV l=some ks ->ks.length=l.length/\∀(i:Nat) a,l[i]?=some a ->∃q,ks[i]?=some q/\(a= .c (.ptr q 0) \/a= .c (.row q))
 |[],ks,h=>by
  obtain rfl:=JB h;exact⟨rfl,λi a j=>by simp at j⟩
 |a::r,ks,h=>by
  have h:(match (generalizing:=false) a with
   | .c (.ptr k 0)=>match rV r with
    |some r=>some (k::r)
    |none=>none
   | .c (.row k)=>match rV r with
    |some r=>some (k::r)
    |none=>none
   |_=>none)=some ks:=h
  have d:∀q,(a= .c (.ptr q 0) \/a= .c (.row q)) ->(match rV r with
    |some r=>some (q::r)
    |none=>none)=some ks ->ks.length=(a::r).length/\∀(i:Nat) b,(a::r)[i]?=some b ->∃q,ks[i]?=some q/\(b= .c (.ptr q 0) \/b= .c (.row q)):=λq p h=>by
   split at h
   ·rename_i t e
    obtain rfl:=JB h;obtain⟨u,v⟩:=zi' e;refine⟨by simp[u],λi b g=>?_⟩;cases i with
    |zero=>
     obtain rfl:=JB g;exact⟨q,rfl,p⟩
    |succ i=>exact v i b g
   ·cases h
  split at h
  ·exact d _ (.inl rfl) h
  ·exact d _ (.inr rfl) h
  ·cases h
theorem Ke{f:Fn}{cs:Array Operand}{aes:List AV}(y:o.op= .makeFunc f #[] cs)(c:aes.length=cs.toList.length)(has:∀(i:Nat) x,cs.toList[i]?=some x ->∃a,aes[i]?=some a/\ao A x=some a/\Lv A a.refs)(h:yT n o k f aes):cv w0 X C0 P τ n o A k:=by
 unfold yT at h;split at h
 ·rename_i g B p
  refine dz h λA' s w C ρ D E=>?_;obtain⟨r,F,H,I⟩:=E.ops D (λx t=>by rw[y];exact t) c has;obtain⟨Q,L⟩:=zi' p;refine⟨.func (.func g) #[] r.toArray,λR=>?_,λK S M=>?_⟩
  ·have e:r=B.map ρ:=by
    refine List.ext_getElem? λi=>?_;rw[JX];cases u:r[i]? with
    |none=>
     rw[QF (by have:=List.getElem?_eq_none_iff.1 u;omega)]
     rfl
    |some v=>
     have U:=aL u;have z:aes[i]?=some aes[i]:=gE;obtain⟨q,q1,d⟩:=L i _ z;rw[q1];have j:=I i _ v z u;show some v=some (ρ q);rcases d with d|d
     ·rw[d]at j
      obtain⟨b,N,O⟩:=j;rw[N,O]
     ·rw[d]at j
      exact KG some j
   show _=_;rw[e]
  ·unfold aW
   simp only[y];exact rD (l:=[]) (vs:=[]) rfl (λi x t=>by simp at t) (rD F H M)
 ·exact h.elim
theorem Kf{T:TypeId}(l:o.op= .makeMap T none)(h:HI' n o k):cv w0 X C0 P τ n o A k:=by
 unfold HI' at h;split at h
 ·rename_i d p
  split at h
  ·rename_i r
   obtain⟨Q,u,h⟩:=h.go;refine⟨_,_,_,h,λA' s w K B D i e y=>?_⟩;obtain⟨C,ρ,e⟩:=e;have i:=i d Ud;unfold aW;simp only[l];refine run (w':=w.alloc (.map #[] 0)) (v:=.map (some w.heap.size)) (by simp[Instr.makeMap]) ?_;rw[p];unfold put;simp only[r];obtain⟨E,F⟩:=s;refine y _ _ ⟨C,jS ρ d (.map (some w.heap.size)),e.fresh (wr:=[(d,.c (.row d))]) (x:=.ob 0 Q) i (Kp.alloc _ _) (λg z=>?_) ⟨w.heap.size,.map #[] 0,gc _ _ _,?_,u,.inl ⟨rfl,e.kp.size⟩⟩ (λt a b=>?_) λt b=>?_⟩ rfl
   ·obtain rfl:=JB z
    exact KJ _
   ·show (w.heap.push _)[_]?=_
    simp
   ·obtain⟨rfl,rfl⟩:=bU b
    refine⟨.map (some w.heap.size),?_,(gc _ _ _).symm⟩;rw[eQ,Nat.beq_refl]
   ·rw[cG]at b
    rw[eQ];cases j:Nat.beq d t with
    |true=>rw[j]at b;cases b
    |false=>rfl
  ·exact h.elim
 ·exact h.elim
theorem Kg{T:TypeId}{x y:Operand}{ok:Bool}{a b:AV}(i:o.op= .lookup T x y ok)(ha:ao A x=some a)(l:Lv A a.refs)(hb:ao A y=some b)(p:Lv A b.refs)(h:yU P n o A k T ok a b):cv w0 X C0 P τ n o A k:=by
 have c:x∈av' o.op:=by rw[i];simp[av']
 have t:y∈av' o.op:=by rw[i];simp[av']
 unfold yU at h;split at h
 ·rename_i j
  split at h
  ·rename_i g Q F
   obtain⟨r,d,h⟩:=h.go;refine dz h λA' s w C ρ z B=>?_;obtain⟨_,v,H,D⟩:=B.op z c ha l;obtain⟨_,u,I,E⟩:=B.op z t hb p;have D:v=ρ j:=D;subst D;obtain⟨q,L,e,M,N,_⟩:=B.ent j _ (z.at (by rw[i];rfl) c ha (by simp[AV.refs,AC.refs]) F);obtain⟨v,O,R⟩:=d C ρ u q w L E M N;refine⟨v,λ_=>O,λK U S=>?_⟩;unfold aW;simp only[i];refine be H (be I ?_);rw[e];exact run R S
  ·exact h.elim
 ·exact h.elim
theorem Kh{T:TypeId}{x y z:Operand}{a b c:AV}(F:o.op= .mapUpdate T x y z)(ha:ao A x=some a)(W:Lv A a.refs)(hb:ao A y=some b)(Y:Lv A b.refs)(hc:ao A z=some c)(Z:Lv A c.refs)(h:yV P n o A k T a b c):cv w0 X C0 P τ n o A k:=by
 have H:x∈av' o.op:=by rw[F];simp[av']
 have a0:y∈av' o.op:=by rw[F];simp[av']
 have a1:z∈av' o.op:=by rw[F];simp[av']
 unfold yV at h;split at h
 ·rename_i j
  split at h
  ·rename_i g Q hm
   obtain⟨Q',I,h⟩:=h.go;obtain⟨wr,L,hw,M⟩:=kC h;refine⟨wr,_,[],L,λA' s w K kp U _ l hK=>?_⟩;obtain⟨C,ρ,l⟩:=l;obtain⟨_,v,hv,hr⟩:=l.op U H ha W;obtain⟨_,u,hu,a2⟩:=l.op U a0 hb Y;obtain⟨_,t,ht,a3⟩:=l.op U a1 hc Z;have hr:v=ρ j:=hr;subst hr;have d:=U.at (by rw[F];rfl) H ha (by simp[AV.refs,AC.refs]) hm;obtain⟨q,ob,e,E,h2,h3⟩:=l.ent j _ d;obtain⟨N,g1,g2⟩:=I C ρ u t q w ob a2 a3 E h2;have hq:q<w.heap.size:=(Array.getElem?_eq_some_iff.1 E).1;have O:Kp [q] w {w with heap:=w.heap.setIfInBounds q N}:=⟨rfl,rfl,rfl,Ud,λi _ B=>by
    have:q≠i:=λe=>B (by simp[e]);simp[Array.getElem?_setIfInBounds_ne this]⟩
   unfold aW;simp only[F];refine be hv (be hu (be ht ?_));rw[e];refine tY g2<|M s _ _ λs' f1 f2 f3=>hK s' _ ⟨C,ρ,?_⟩ f3;have p:blk (ρ j)=some q:=by rw[e];rfl
   refine l.step [] (λ_ _=>rfl) (λk L=>by cases L) (λk L=>by cases L) (λk x B _=>?_) O (λz hz=>?_) (λ_ _ _ h=>h) (l.sub.kp O λV o' v' D r=>?_) (λ_ _ _ h=>.inl ⟨_,_,h⟩) (λk x B=>?_) (λk x V B a6 r=>?_) (λt a R _=>⟨_,f1 t a R,by have:=hw t a R;subst this;exact RV.raw _⟩) f2
   ·obtain⟨rfl,rfl⟩:=bU B
    exact .inr ⟨_,d,rfl⟩
   ·obtain rfl:z=q:=by simpa using hz
    exact⟨j,_,_,mA _ _ _,d,rfl,p⟩
   ·obtain rfl:V=q:=by simpa using r
    exact l.off j _ V V o' v' d rfl p D rfl
   ·obtain⟨rfl,rfl⟩:=bU B
    exact⟨q,N,e,by simp[hq],g1,h3⟩
   ·obtain⟨rfl,rfl⟩:=bU B
    rw[p]at r;obtain rfl:=JB r;refine⟨λi y S hi a4 a5=>?_,λb' o' v' D e1=>?_⟩
    ·rcases look_app_some hi with E|⟨_,E⟩
     ·exact S (bU E).1
     ·exact l.sep i k y _ q S E a4 d rfl a5 p
    ·exact l.off k _ q b' o' v' d rfl p D e1
  ·exact h.elim
 ·exact h.elim
theorem Ei{l:List Nat}(h:pW A l=true):∀k∈l,∃g T cs,look A.m k=some (.st g T cs):=by
 induction l with
 |nil=>intro k a;cases a
 |cons x r b=>
  have h:(match look A.m x with
   |some (.st _ _ _)=>pW A r
   |_=>false)=true:=h
  split at h
  ·rename_i g T cs c
   intro k a;rcases List.mem_cons.1 a with rfl|a
   ·exact⟨g,T,cs,c⟩
   ·exact b h k a
  ·cases h
theorem Ki{pn:List PanicEntry ->List Nat ->Prop}{c:Call}{f:FuncId}{aes:List AV}{q q' qc:Option (List PV)}(g:o.op= .call c)(hc:c.callee= .value (.func f))(d:aes.length=c.args.toList.length)(has:∀(i:Nat) x,c.args.toList[i]?=some x ->∃a,aes[i]?=some a/\ao A x=some a/\Lv A a.refs)(h:gU P n o A k pn f aes q q' qc):rC w0 X C0 P τ n o A k pn:=by
 have b:∀x∈c.args.toList,x∈av' o.op:=λx e=>by rw[g];exact QW _ e
 refine Ec (by rw[g];simp only[ja',hc]) (λk r=>?_) (λA' s w C ρ t u=>?_) h
 ·obtain⟨a,v,j⟩:=DN r
  obtain⟨i,l⟩:=JH v;have y:=aL l;have e:c.args.toList[i]?=some c.args.toList[i]:=gE;obtain⟨I,p,z,_⟩:=has i _ e;rw[l]at p;obtain rfl:=JB p;exact oQ (b _ (JQ e)) z k j
 ·obtain⟨B,D,E,F⟩:=u.ops t b d has
  refine⟨B,Uo,F,λK L H=>?_⟩;unfold aW;simp only[g,hc];refine be (rfl:ev s.e (.func f)=some (.func (.func f) #[] #[])) (rD D E ?_);unfold tS;simp only[Array.append_empty,Array.empty_append];exact H
theorem Kj{pn:List PanicEntry ->List Nat ->Prop}{c:Call}{t:Nat}{f:FuncId}{ks:List Nat}{aes:List AV}{q q' qc:Option (List PV)}(u:o.op= .call c)(hc:c.callee= .value (.tmp t))(H:ao A (.tmp t)=some (.c (.fn f ks)))(I:Lv A (AV.c (.fn f ks)).refs)(L:pW A ks=true)(y:aes.length=c.args.toList.length)(has:∀(i:Nat) x,c.args.toList[i]?=some x ->∃a,aes[i]?=some a/\ao A x=some a/\Lv A a.refs)(h:gU P n o A k pn f (aes++jU ks) q q' qc):rC w0 X C0 P τ n o A k pn:=by
 have l:∀x∈c.args.toList,x∈av' o.op:=λx E=>by rw[u];exact QW _ E
 have p:Operand.tmp t∈av' o.op:=by rw[u];exact QV _ (by rw[hc];simp)
 refine Ec (by rw[u];simp only[ja',hc]) (λk R=>?_) (λA' s w C ρ M N=>?_) h
 ·obtain⟨a,d,z⟩:=DN R
  rcases List.mem_append.1 d with d|d
  ·obtain⟨i,r⟩:=JH d
   have S:=aL r;have E:c.args.toList[i]?=some c.args.toList[i]:=gE;obtain⟨a',Q,U,_⟩:=has i _ E;rw[r]at Q;obtain rfl:=JB Q;exact oQ (l _ (JQ E)) U k z
  ·obtain⟨q,B,rfl⟩:=List.mem_map.1 d
   obtain rfl:k=q:=by simpa[AV.refs,AC.refs]using z
   exact oQ p H k B
 ·obtain⟨F,V,W,Y⟩:=N.ops M l y has
  obtain⟨_,v,Z,O⟩:=N.op M p H I;have O:v= .func (.func f) #[] (ks.map ρ).toArray:=O;subst O;refine⟨F++ks.map ρ,by simp[jU];omega,λi a v d j=>?_,λK kp hE=>?_⟩
  ·rcases Nat.lt_or_ge i aes.length with r|r
   ·rw[QH r]at d
    rw[QH Uo]at j;exact Y i a v d j
   ·rw[QU r]at d
    rw[QU Uo,show i-F.length=i-aes.length by omega,JX]at j;unfold jU at d;rw[JX]at d;cases B:ks[i-aes.length]? with
    |none=>rw[B]at d;cases d
    |some q=>
     rw[B]at d j;obtain rfl:=JB d;obtain rfl:=JB j;have D:=JQ B;obtain⟨g,T,cs,hm⟩:=Ei L q D;obtain⟨b,us,e,_⟩:=N.ent q _ (M.at (Jo u hc) p H D hm);exact⟨b,e,e⟩
  ·unfold aW
   simp only[u,hc];refine be Z (rD V W ?_);unfold tS;simp only[Array.empty_append];rw[show F.toArray++(ks.map ρ).toArray=(F++ks.map ρ).toArray by simp];exact hE
end
end Go.Wx
