import Derived.Test.YtdfeclpphaccnaaGreatMs02
import Derived.Lib.SliceRun
set_option linter.all false
set_option maxHeartbeats 4000000
noncomputable section
namespace Go.Wx
section
variable(P:Program)(f:FuncId)(ps:List PV)
def VC(r:PV):Prop:=VG P f (vals ps) [] (.ok (.c (.p r),[]))
def VO(e sz:Nat)(l:List (List PV)):Prop:=VG P f (vals ps) [] (.ok (.c (.row 0),[(0,.rw e sz l)]))
def VN(T:Nat)(cs:List PV):Prop:=VG P f (vals ps) [] (.ok (.c (.ptr 0 0),[(0,.st 0 T (cs.map .p))]))
def VE(ch:List PanicEntry):Prop:=VG P f (vals ps) [] (.error ch)
def VX:Except (List PanicEntry) PV ->Prop
 | .ok r=>VC P f ps r
 | .error ch=>VE P f ps ch
end
section
variable(P:Program)(f:FuncId)(T:Nat)(cs:List PV)
def VP(cs' ps:List PV)(r:PV):Prop:=VG P f (.c (.ptr 0 0)::vals ps) [(0,.st 1 T (cs.map .p))] (.ok (.c (.p r),[(0,.st 1 T (cs'.map .p))]))
def Da(ps:List PV)(ch:List PanicEntry):Prop:=VG P f (.c (.ptr 0 0)::vals ps) [(0,.st 1 T (cs.map .p))] (.error ch)
def eW(ps:List PV):Except (List PanicEntry) (List PV×PV) ->Prop
 | .ok (cs',r)=>VP P f T cs cs' ps r
 | .error ch=>Da P f T cs ps ch
end
def kF(o:Oper):Nat:=match o.dst with
 |some d=>d
 |none=>0
section
variable{P:Program}{n:Nat}{o:Oper}{A:AS}{k:Kk}{pn:List PanicEntry ->List Nat ->Prop}{f:FuncId}{aes:List AV}{q q' qc:Option (List PV)}
theorem o3(h:Nat ->Nat):∀{aes:List AV} {ps:List PV},cL A aes=some ps ->oZ A h aes (vals ps)/\kpv aes (vals ps)=refsA aes
 |[],ps,b=>by
  obtain rfl:=JB b;exact⟨VQ,rfl⟩
 |a::r,ps,b=>by
  have b:(match oS A a with
   |some y=>match cL A r with
    |some r=>some (y::r)
    |none=>none
   |none=>none)=some ps:=b
  split at b
  ·rename_i y e
   split at b
   ·rename_i j d
    obtain rfl:=JB b;obtain⟨g,i⟩:=o3 h d;exact⟨⟨.inl e,g⟩,KG (a.refs++ ·) i⟩
   ·cases b
  ·cases b
theorem uv(h:Nat ->Nat){ps:List PV}(a:cL A aes=some ps):uq A h aes (vals ps) []:=⟨(o3 h a).1,VQ,rfl,rfl⟩
theorem ae{ps:List PV}{r:PV}(h:VC P f ps r)(b:fin n o.dst (.c (.p r)) λwr=>k wr (bJ A (refsA aes)) [])(a:cL A aes=some ps:=by rfl):gk P n o A k pn f aes (some ps) q' qc:=
 ⟨.inl ⟨id,λ_=>0,vals ps,[],[],_,h,⟨uv id a,rfl,rfl,rfl,rfl,rfl⟩,by rw[(o3 id a).2];exact b⟩⟩
theorem gm{ps:List PV}{e sz:Nat}{l:List (List PV)}(h:VO P f ps e sz l)(b:fin n o.dst (.c (.row (kF o))) λwr=>k wr ((kF o,.rw e sz l)::bJ A (refsA aes)) [kF o])(a:cL A aes=some ps:=by rfl):gk P n o A k pn f aes (some ps) q' qc:=
 ⟨.inl ⟨λ_=>kF o,λ_=>0,vals ps,[],_,_,h,⟨uv _ a,rfl,rfl,rfl,rfl,rfl⟩,by rw[(o3 (λ_=>kF o) a).2];exact b⟩⟩
theorem I3{ps:List PV}{T:Nat}{cs:List PV}(h:VN P f ps T cs)(b:fin n o.dst (.c (.ptr (kF o) 0)) λwr=>k wr ((kF o,.st 0 T (cs.map .p))::bJ A (refsA aes)) [kF o])(a:cL A aes=some ps:=by rfl):gk P n o A k pn f aes (some ps) q' qc:=
 ⟨.inl ⟨λ_=>kF o,λ_=>0,vals ps,[],_,_,h,⟨uv _ a,rfl,rfl,rfl,by
  have:∀l:List PV,refsL (l.map .p)=[]:=λl=>by
   induction l with
   |nil=>rfl
   |cons x r d=>exact d
  show gV _ ([0]++(refsL (cs.map .p)++[]))=true;rw[this]
  rfl,rfl⟩,by
  have:(cs.map AC.p).map (AC.ren λ_=>kF o)=cs.map .p:=by rw[List.map_map];rfl
  rw[(o3 (λ_=>kF o) a).2];simp only[jh,List.map_cons,List.map_nil,SE.ren,SE.inf,this];exact b⟩⟩
theorem bK{ps:List PV}{ch:List PanicEntry}(h:VE P f ps ch)(a:pn ch [])(b:cL A aes=some ps:=by rfl):gk P n o A k pn f aes (some ps) q' qc:=⟨.inr (.inl ⟨id,vals ps,[],ch,h,uv id b,rfl,a⟩)⟩
theorem kG{ps:List PV}{r:PV}(h:VC P f ps r)(a:fin n o.dst (.c (.p r)) λwr=>k wr [] [])(b:r.flat=true:=by rfl)(d:cL A aes=some ps:=by rfl):gk P n o A k pn f aes (some ps) q' qc:=⟨.inr (.inr (.inl ⟨ps,r,h,b,d,a⟩))⟩
theorem yu{j e:Nat}{l:List (List PV)}(h:uu P f e)(a:fin n o.dst (.c (.p (.tup []))) λwr=>k wr [(j,.rw e 1 l.reverse)] [])(hl:l.length<=100000/\∀x∈l,∃t,x=[.sl t])(b:look A.m j=some (.rw e 1 l):=by rfl):gk P n o A k pn f [.c (.row j)] q q' qc:=⟨.inr (.inr (.inr ⟨j,e,l,h,rfl,b,hl,a⟩))⟩
theorem I4(l:List PV):refsL (l.map .p)=[]:=by
 induction l with
 |nil=>rfl
 |cons x r a=>exact a
theorem rK(h:Nat ->Nat)(l:List PV):(l.map AC.p).map (AC.ren h)=l.map .p:=by rw[List.map_map];rfl
theorem yv{j:Nat}{x:SE}{ks:List Nat}(a:look A.m j=some x)(d:x.fl≠none):look (A.upd [] (bJ A ks)).m j=some x:=by
 show look (bJ A ks++A.m) j=_;rw[rx]
 ·exact a
 ·cases g:look (bJ A ks) j with
  |none=>rfl
  |some y=>
   obtain⟨_,e,h,l,b,_⟩:=lB g;rw[a]at b;obtain rfl:=JB b;exact absurd rfl d
theorem rL{j g T:Nat}{cs ps:List PV}(a:cL A aes=some ps)(b:look A.m j=some (.st g T (cs.map .p))):uq A (λ_=>j) (.c (.ptr j 0)::aes) (.c (.ptr 0 0)::vals ps) [(0,.st 1 T (cs.map .p))]:=⟨⟨.inl rfl,(o3 _ a).1⟩,⟨by
  show (match look (A.upd [] (bJ A (kpv (.c (.ptr j 0)::aes) (.c (.ptr 0 0)::vals ps)))).m j with
   |some x=>some (x.inf 0)
   |none=>none)=some (.st 0 T ((cs.map .p).map (AC.ren λ_=>j)))
  rw[yv b (by simp[SE.fl]),rK]
  rfl,VQ⟩,rfl,by
  show (match fj j (deepK A ([j]++refsA aes))with
   |true=>true
   |false=>false)=true
  rw[nQ (by simp[deepK])]⟩
theorem ax{j:Nat}{g T:Nat}{cs cs' ps:List PV}{r:PV}(h:VP P f T cs cs' ps r)(d:fin n o.dst (.c (.p r)) λwr=>k wr ((j,.st g T (cs'.map .p))::bJ A (refsA aes)) [])(a:look A.m j=some (.st g T (cs.map .p)):=by rfl)(b:cL A aes=some ps:=by rfl):gk P n o A k pn f (.c (.ptr j 0)::aes) q (some ps) (some cs):=
 ⟨.inl ⟨λ_=>j,λ_=>g,_,_,_,_,h,⟨rL b a,rfl,rfl,rfl,by
  show gV _ ([]++(refsL (cs'.map .p)++[]))=true;rw[I4]
  rfl,by
  show (match Nat.beq (sp' (look (A.upd [] (bJ A (kpv (.c (.ptr j 0)::aes) (.c (.ptr 0 0)::vals ps)))).m j)) g with
   |true=>true
   |false=>false)=true
  rw[yv a (by simp[SE.fl])];show (match Nat.beq g g with
   |true=>true
   |false=>false)=true
  rw[Nat.beq_refl]⟩,by
  have e:kpv (.c (.ptr j 0)::aes) (.c (.ptr 0 0)::vals ps)=refsA aes:=(o3 (λ_=>j) b).2;rw[e];simp only[jh,List.map_cons,List.map_nil,SE.ren,SE.inf,rK];exact d⟩⟩
theorem bG{j:Nat}{g T:Nat}{cs ps:List PV}{ch:List PanicEntry}(h:Da P f T cs ps ch)(a:pn ch [j])(b:look A.m j=some (.st g T (cs.map .p)):=by rfl)(d:cL A aes=some ps:=by rfl):gk P n o A k pn f (.c (.ptr j 0)::aes) q (some ps) (some cs):=⟨.inr (.inl ⟨λ_=>j,_,_,ch,h,rL d b,rfl,a⟩)⟩
theorem aT(h fg:Nat ->Nat){bs:List AV}{m m':List (Nat×SE)}{a:AV}(hc:VG P f bs m (.ok (a,m')))(b:fin n o.dst (a.ren h) λwr=>k wr (jh fg h m m'++bJ A (kpv aes bs)) ((newK m m').map h))(hr:oZ A h aes bs:=by repeat first|exact VQ|refine And.intro (.inl rfl) ?_|refine And.intro (.inr ⟨rfl,rfl⟩) ?_)(he:nS (A.upd [] (bJ A (kpv aes bs))) h m:=by repeat first|exact VQ|refine And.intro rfl ?_)(h1:lD m 0=true:=by rfl)(h2:pW ((keysOf m).map h) (deepK A (refsA aes))=true:=by rfl)(h3:da h (keysOf m++newK m m')=true:=by rfl)(h4:da h (keysOf m')=true:=by rfl)(d:jY m m'=true:=by rfl)(e:gV ⟨[],m'⟩ (a.refs++kD m')=true:=by rfl)(g:mJ (A.upd [] (bJ A (kpv aes bs))) h fg m'=true:=by rfl):gk P n o A k pn f aes q q' qc:=⟨.inl ⟨h,fg,bs,m,m',a,hc,⟨⟨hr,he,h1,h2⟩,h3,h4,d,e,g⟩,b⟩⟩
theorem mL(h:Nat ->Nat){bs:List AV}{m:List (Nat×SE)}{ch:List PanicEntry}(hc:VG P f bs m (.error ch))(a:pn ch ((keysOf m).map h))(hr:oZ A h aes bs:=by repeat first|exact VQ|refine And.intro (.inl rfl) ?_|refine And.intro (.inr ⟨rfl,rfl⟩) ?_)(he:nS (A.upd [] (bJ A (kpv aes bs))) h m:=by repeat first|exact VQ|refine And.intro rfl ?_)(h1:lD m 0=true:=by rfl)(h2:pW ((keysOf m).map h) (deepK A (refsA aes))=true:=by rfl)(h3:da h (keysOf m)=true:=by rfl):gk P n o A k pn f aes q q' qc:=⟨.inr (.inl ⟨h,bs,m,ch,hc,⟨hr,he,h1,h2⟩,h3,a⟩)⟩
end
section
variable{P:Program}{f:FuncId}
theorem Db{C:Mem}{ρ:Nat ->Value}{ps:List PV}{vs:List Value}(e:cZ C ps vs):vs.length=(vals ps).length/\∀(i:Nat) b v,(vals ps)[i]?=some b ->vs[i]?=some v ->RA C ρ b v:=⟨by rw[kE];exact e.1,λi b v a g=>by
 unfold vals at a;rw[JX]at a;cases d:ps[i]? with
 |none=>rw[d]at a;cases a
 |some x=>
  rw[d]at a;obtain rfl:=JB a;exact e.2 i x v d g⟩
theorem Rp.zero{w:World}{C:Mem}{ρ:Nat ->Value}(X:List Nat)(e:Sub C w):Rp w X C ⟨[],[]⟩ ⟨[],[]⟩ w C ρ:=⟨λt a i=>(by cases i),λk x d=>(by cases d),λj k x y g _ d=>(by cases d),λk x g b o v d=>(by cases d),e,λ_ _ _ h=>h,λ_ _ _ h=>.inl ⟨_,_,h⟩,Kp.refl _ _⟩
theorem Dc{w w':World}{X:List Nat}{C C':Mem}{a:AV}{m:List (Nat×SE)}{v:Value}{ρ:Nat ->Value}(h:Rp w X C ⟨[(0,a)],m⟩ ⟨[(0,v)],[]⟩ w' C' ρ)(hl:Lv ⟨[(0,a)],m⟩ a.refs):RA C' ρ a v:=by
 obtain⟨d,b,e⟩:=h.slot 0 _ rfl hl;have b:some v=some d:=b;rw[JB b];exact e
theorem uw{w:World}{X:List Nat}{C:Mem}{ρ:Nat ->Value}{aes:List AV}{m:List (Nat×SE)}{vs:List Value}(hl:vs.length=aes.length)(h:Rp w X C ⟨ja' aes 0,m⟩ ⟨ini vs 0,[]⟩ w C ρ):∀(i:Nat) a v,aes[i]?=some a ->vs[i]?=some v ->Lv ⟨ja' aes 0,m⟩ a.refs ->RA C ρ a v:=λi a v x y g=>by
 have z:∀(aes:List AV) (j i:Nat) (a:AV),aes[i]?=some a ->look (ja' aes j) (j+i)=some a:=λaes=>by
  induction aes with
  |nil=>intro j i a h;simp at h
  |cons b r p=>
   intro j i a h;simp only[ja',cI];cases i with
   |zero=>
    obtain rfl:=JB h;simp only[Nat.add_zero,Nat.beq_refl]
   |succ i=>
    have d:Nat.beq j (j+(i+1))=false:=by
     cases d:Nat.beq j (j+(i+1))with
     |true=>have:=QJ d;omega
     |false=>rfl
    rw[d,show j+(i+1)=j+1+i by omega];exact p (j+1) i a h
 have D:∀(l:List Value) (j i:Nat) (v:Value),l[i]?=some v ->get (ini l j) (j+i)=some v:=λl=>by
  induction l with
  |nil=>intro j i v h;simp at h
  |cons b r p=>
   intro j i v h;simp only[ini,eV];cases i with
   |zero=>
    obtain rfl:=JB h;simp only[Nat.add_zero,Nat.beq_refl]
   |succ i=>
    have d:Nat.beq j (j+(i+1))=false:=by
     cases d:Nat.beq j (j+(i+1))with
     |true=>have:=QJ d;omega
     |false=>rfl
    rw[d,show j+(i+1)=j+1+i by omega];exact p (j+1) i v h
 have t:=z aes 0 i a x;rw[KW]at t;obtain⟨E,e,F⟩:=h.slot i a t g;have u:=D vs 0 i v y;rw[KW]at u;have e:get (ini vs 0) i=some E:=e;rw[u]at e;rw[JB e];exact F
theorem VC.run{ps:List PV}{r:PV}(h:VC P f ps r):dM P f/\∀(w:World) (C:Mem) (vs:List Value),Sub C w ->cZ C ps vs ->Calls P f vs.toArray w (λe w'=>∃v C',e= .returned v/\RV C' r v/\rB C w C' w'):=⟨h.1,λw C vs g i=>by
 obtain⟨d,j⟩:=Db (ρ:=λk=>(λ_=>undef) (id k)) i;refine(h.2 w [] C _ vs d ((Rp.zero (ρ:=λ_=>undef) [] g).into (h:=id) (m:=[]) (λp l=>by cases l) rfl rfl d j)).mono λe w' t=>?_;obtain⟨v,C',u,rfl,a⟩:=t;exact⟨v,C',rfl,Dc a λk x=>(by cases x),a.sub,a.c0,λb o v y=>(a.cn b o v y).imp id λh=>h.elim id λh=>(by cases h),a.kp⟩⟩
theorem VC.of{ps:List PV}{r:PV}(h:dM P f/\∀(w:World) (C:Mem) (vs:List Value),Sub C w ->cZ C ps vs ->Calls P f vs.toArray w (λe w'=>∃v C',e= .returned v/\RV C' r v/\rB C w C' w')):VC P f ps r:=⟨h.1,λw X C ρ vs m u=>(h.2 w C vs u.sub ⟨by rw[m,kE],λi x v d z=>uw m u i (.c (.p x)) v (by unfold vals;rw[JX,d];rfl) z λk D=>(by cases D)⟩).mono λe w' E=>by
 obtain⟨v,C',rfl,F,l⟩:=E;exact⟨v,C',ρ,rfl,λt a H m=>by
  obtain⟨rfl,rfl⟩:=bI H;exact⟨v,rfl,F⟩,λk x d=>(by cases d),λj k x y g _ d=>(by cases d),λk x g b o v d=>(by cases d),l.sub,l.c,λb o v I=>(l.n b o v I).imp id .inl,l.kp.weak Ud⟩⟩
theorem VO.of{ps:List PV}{e sz:Nat}{l:List (List PV)}(h:dM P f/\∀(w:World) (C:Mem) (vs:List Value),Sub C w ->cZ C ps vs ->Calls P f vs.toArray w (λH w'=>∃v C' css,H= .returned v/\w'.ownsRow w.heap.size e sz v l.length (List.flatten css)/\(∀x∈l,x.length=sz)/\css.length=l.length/\(∀(i:Nat) (us:List Value) x,css[i]?=some us ->l[i]?=some x ->us.length=sz/\∀(j:Nat) y u,x[j]?=some y ->us[j]?=some u ->u.oneCell'=true/\RV C' y u)/\rB C w C' w'/\∀g,blk v=some g ->∀b o u,C' b o u ->b≠g)):VO P f ps e sz l:=⟨h.1,λw X C ρ vs z I=>(h.2 w C vs I.sub ⟨by rw[z,kE],λi x v m L=>uw z I i (.c (.p x)) v (by unfold vals;rw[JX,m];rfl) L λk D=>(by cases D)⟩).mono λH w' M=>by
 obtain⟨v,C',css,rfl,N,O,Q,R,r,d⟩:=M;refine⟨v,C',λ_=>v,rfl,λt a S z=>?_,λk x m=>?_,λj k x y g E U _ D=>absurd ((bI U).1.trans (bI D).1.symm) E,λk x g b o u m _ V F=>d g V b o u F,r.sub,r.c,λb o v F=>(r.n b o v F).imp id .inl,r.kp.weak Ud⟩
 ·obtain⟨rfl,rfl⟩:=bI S
  exact⟨v,rfl,rfl⟩
 ·obtain⟨rfl,rfl⟩:=bI m
  exact⟨css,xF N (KJ _),O,Q,R⟩⟩
theorem I5{T b:Nat}{cs ps:List PV}{w:World}{C:Mem}{us vs:List Value}(I:Sub C w)(L:Bk w.heap b us T)(E:cZ C cs us)(h1:∀u∈us,u.oneCell'=true)(l:∀z o v,C z o v ->z≠b)(hP:cZ C ps vs):Rp w [b] C ⟨ja' (.c (.ptr 0 0)::vals ps) 0,[(0,.st 1 T (cs.map .p))]⟩ ⟨ini (.pointer (some ⟨b,0,none⟩)::vs) 0,[]⟩ w C λ_=>.pointer (some ⟨b,0,none⟩):=by
 have M:Rp w [b] C ⟨[],[(0,.st 1 T (cs.map .p))]⟩ ⟨[],[]⟩ w C λ_=>.pointer (some ⟨b,0,none⟩):=by
  refine⟨λt a N=>(by cases N),λk x r=>?_,λj k x y g D O _ Q=>absurd ((bI O).1.trans (bI Q).1.symm) D,λk x g z o v r _ R d=>?_,I,λ_ _ _ h=>h,λ_ _ _ h=>.inl ⟨_,_,h⟩,Kp.refl _ _⟩
  ·obtain⟨rfl,rfl⟩:=bI r
   refine⟨b,us,rfl,L,.inr ⟨0,rfl,rfl⟩,by rw[E.1,KF],λi c u d F=>⟨h1 u (JQ F),λ_=>?_⟩⟩;rw[JX]at d;cases e:cs[i]? with
   |none=>rw[e]at d;cases d
   |some S=>
    rw[e]at d;obtain rfl:=JB d;exact E.2 i S u e F
  ·obtain rfl:=JB R
   exact l z o v d
 obtain⟨U,V⟩:=Db (ρ:=λ_=>Value.pointer (some ⟨b,0,none⟩)) hP;have:=M.into (h:=id) (m:=[(0,.st 1 T (cs.map .p))]) (bs:=.c (.ptr 0 0)::vals ps) (vs:=.pointer (some ⟨b,0,none⟩)::vs) (λp W=>by
  obtain rfl:p=(0,.st 1 T (cs.map .p)):=by simpa using W
  exact⟨_,rfl,by show SE.st 0 T _=SE.st 0 T _;rw[rK]⟩) rfl rfl (by simp[U]) λi x v r H=>by
  cases i with
  |zero=>
   obtain rfl:=JB r;obtain rfl:=JB H;exact⟨b,rfl,rfl⟩
  |succ i=>exact V i x v r H
 exact this
theorem VP.run{T:Nat}{cs cs' ps:List PV}{r:PV}(h:VP P f T cs cs' ps r):dM P f/\∀(w:World) (C:Mem) (b:Nat) (us vs:List Value),Sub C w ->Bk w.heap b us T ->cZ C cs us ->(∀u∈us,u.oneCell'=true) ->(∀g o v,C g o v ->g≠b) ->cZ C ps vs ->
  Calls P f (.pointer (some ⟨b,0,none⟩)::vs).toArray w λe w'=>∃v C' us',e= .returned v/\RV C' r v/\Bk w'.heap b us' T/\cZ C' cs' us'/\(∀u∈us',u.oneCell'=true)/\Sub C' w'/\(∀b o v,C b o v ->C' b o v)/\(∀b o v,C' b o v ->Hb C b \/w.heap.size<=b)/\Kp [b] w w':=⟨h.1,λw C b us vs L M N O j hP=>(h.2 w [b] C _ _ (by simp[hP.1,kE]) (I5 L M N O j hP)).mono λe w' Q=>by
 obtain⟨v,C',R,rfl,d⟩:=Q;obtain⟨g,us',S,t,U,H,l⟩:=d.ent 0 _ rfl;have y:g=b:=by
  rcases U with ⟨I,_⟩|⟨i,I,m⟩
  ·cases I
  ·obtain rfl:i=0:=Uo
   exact(JB m).symm
 subst y;have a:∀(i:Nat) x u,cs'[i]?=some x ->us'[i]?=some u ->u.oneCell'=true/\RV C' x u:=λi x u D E=>by
  obtain⟨V,W⟩:=l i (.p x) u (by rw[JX,D];rfl) E;exact⟨V,W λz Y=>by cases Y⟩
 have F:∀b o v,C' b o v ->b≠g:=λb o v h=>d.off 0 _ g b o v rfl rfl (by rw[S];rfl) h;refine⟨v,C',us',rfl,Dc d λk Z=>(by cases Z),t,⟨by rw[H,KF],λi x v D hv=>(a i x v D hv).2⟩,λu E=>?_,d.sub,d.c0,λb o v l=>(d.cn b o v l).imp id λh=>h.elim id λh=>absurd (by simpa using h) (F b o v l),d.kp⟩;obtain⟨i,m⟩:=JH E;have a0:=aM m;rw[KF]at H;exact(a i _ u (gE) m).1⟩
theorem VP.of{T:Nat}{cs cs' ps:List PV}{r:PV}(h:dM P f/\∀(w:World) (C:Mem) (b:Nat) (us vs:List Value),Sub C w ->Bk w.heap b us T ->cZ C cs us ->(∀u∈us,u.oneCell'=true) ->(∀l o v,C l o v ->l≠b) ->cZ C ps vs ->
  Calls P f (.pointer (some ⟨b,0,none⟩)::vs).toArray w λe w'=>∃v C' us',e= .returned v/\RV C' r v/\Bk w'.heap b us' T/\cZ C' cs' us'/\(∀u∈us',u.oneCell'=true)/\Sub C' w'/\(∀b o v,C b o v ->C' b o v)/\(∀b o v,C' b o v ->Hb C b \/w.heap.size<=b)/\Kp [b] w w'):VP P f T cs cs' ps r:=⟨h.1,λw X C ρ vs H N=>by
 match vs,H with
 |v0::vs,H=>
 obtain⟨b,us,S,hB,ho,E,d⟩:=N.ent 0 _ rfl;have hb:X[0]?=some b:=by
  rcases ho with ⟨h0,_⟩|⟨i,h0,R⟩
  ·cases h0
  ·obtain rfl:i=0:=Uo
   exact R
 have U:v0= .pointer (some ⟨b,0,none⟩):=by
  obtain⟨l,q1,q2⟩:=uw H N 0 _ v0 rfl rfl λk I=>⟨_,by
   obtain rfl:k=0:=by simpa[AV.refs,AC.refs]using I
   exact rfl,rfl⟩
  rw[S]at q1;rw[q2];exact q1.symm
 subst U;have m:∀(i:Nat) x u,cs[i]?=some x ->us[i]?=some u ->u.oneCell'=true/\RV C x u:=λi x u D M=>by
  obtain⟨o1,o2⟩:=d i (.p x) u (by rw[JX,D];rfl) M;exact⟨o1,o2 λz V=>by cases V⟩
 have O:blk (ρ 0)=some b:=by rw[S];rfl
 rw[KF]at E;have F:∀l o v,C l o v ->l≠b:=λl o v d=>N.off 0 _ b l o v rfl rfl O d;refine(h.2 w C b us vs N.sub hB ⟨E,λi x v D W=>(m i x v D W).2⟩ (λu M=>?_) F ⟨by simp[kE]at H;exact H,λi x v D W=>uw H N (i+1) (.c (.p x)) v (by rw[List.getElem?_cons_succ];unfold vals;rw[JX,D];rfl) W λk I=>(by cases I)⟩).mono λe w' he=>?_
 ·obtain⟨i,R⟩:=JH M
  have a3:=aM R;exact(m i _ u (gE) R).1
 ·obtain⟨v,C',us',rfl,hr,Y,Q,Z,a0,a1,hn,I⟩:=he
  refine⟨v,C',ρ,rfl,λt a ht H=>?_,λk x D=>?_,λj k x y g a2 hj _ I=>absurd ((bI hj).1.trans (bI I).1.symm) a2,λk x g l o v D _ hg d=>?_,a0,a1,λb o v d=>(hn b o v d).imp id .inl,I.weak (by
   intro z V;obtain rfl:z=b:=by simpa using V
   exact λ_=>JQ hb)⟩
  ·obtain⟨rfl,rfl⟩:=bI ht
   exact⟨v,rfl,hr⟩
  ·obtain⟨rfl,rfl⟩:=bI D
   refine⟨b,us',S,Y,.inr ⟨0,rfl,hb⟩,by rw[Q.1,KF],λi c u d M=>⟨Z u (JQ M),λ_=>?_⟩⟩;rw[JX]at d;cases L:cs'[i]? with
   |none=>rw[L]at d;cases d
   |some x'=>
    rw[L]at d;obtain rfl:=JB d;exact Q.2 i x' u L M
  ·obtain⟨rfl,rfl⟩:=bI D
   rw[O]at hg;obtain rfl:=JB hg;rcases hn l o v d with ⟨o',v',h⟩|h
   ·exact F l o' v' h
   ·have:=hB.lt
    omega⟩
end
structure Dd(k:(Obj ->Prop) ->Prop):Prop where
 go:∃Q:Obj ->Prop,Q (.map #[] 0)/\k Q
structure yw(P:Program)(T:TypeId)(Q:Obj ->Prop)(key:AV)(ok:Bool)(k:PV ->Prop):Prop where
 go:∃r,(∀(C:Mem) (ρ:Nat ->Value) (kv:Value) (b:Nat) (w:World) (ob:Obj),RA C ρ key kv ->w.heap[b]?=some ob ->Q ob ->∃v,RV C r v/\(Instr.lookup T (.map (some b)) kv ok).run P w= .ok v w)/\k r
structure De(P:Program)(T:TypeId)(Q:Obj ->Prop)(key val:AV)(k:(Obj ->Prop) ->Prop):Prop where
 go:∃Q':Obj ->Prop,(∀(C:Mem) (ρ:Nat ->Value) (kv vv:Value) (b:Nat) (w:World) (ob:Obj),RA C ρ key kv ->RA C ρ val vv ->w.heap[b]?=some ob ->Q ob ->∃ob',Q' ob'/\(Instr.mapUpdate T (.map (some b)) kv vv).run P w= .ok () {w with heap:=w.heap.setIfInBounds b ob'})/\k Q'
theorem rN{k:(Obj ->Prop) ->Prop}(Q:Obj ->Prop)(a:k Q)(h:Q (.map #[] 0)):Dd k:=⟨Q,h,a⟩
def rO(l:List AV):Option (List Nat):=List.rec (motive:=λ_=>Option (List Nat)) (some []) (λa _ ih=>match a with
 | .c (.ptr k 0)=>match ih with
  |some r=>some (k::r)
  |none=>none
 | .c (.row k)=>match ih with
  |some r=>some (k::r)
  |none=>none
 |_=>none) l
def pX(A:AS)(l:List Nat):Bool:=List.rec (motive:=λ_=>Bool) true (λk _ ih=>match look A.m k with
 |some (.st _ _ _)=>ih
 |_=>false) l
def jD(l:List Nat):List AV:=l.map λk=>.c (.ptr k 0)
section
variable(P:Program)(n:Nat)(o:Oper)(A:AS)(k:Kk)
def yx(f:Fn)(aes:List AV):Prop:=match f,rO aes with
 | .func g,some ks=>out n o k (.c (.fn g ks))
 |_,_=>False
def HO':Prop:=match o.dst with
 |some d=>match Nat.ble (d+1) n with
  |true=>Dd λQ=>k [(d,.c (.row d))] [(d,.ob 0 Q)] [d]
  |false=>False
 |none=>False
def yy(T:TypeId)(ok:Bool)(a b:AV):Prop:=match a with
 | .c (.row j)=>match look A.m j with
  |some (.ob _ Q)=>yw P T Q b ok λr=>out n o k (.c (.p r))
  |_=>False
 |_=>False
def yz(T:TypeId)(a b c:AV):Prop:=match a with
 | .c (.row j)=>match look A.m j with
  |some (.ob g Q)=>De P T Q b c λQ'=>fin n o.dst (.c (.p (.raw undef))) λwr=>k wr [(j,.ob g Q')] []
  |_=>False
 |_=>False
end
section
variable{w0:World}{X:List Nat}{C0:Mem}{P:Program}{τ:Tau}{n:Nat}{o:Oper}{A A':AS}{k:Kk}{s:St}{w:World}{C:Mem}{ρ:Nat ->Value}
theorem yQ':∀{l:List AV} {ks:List Nat},rO l=some ks ->ks.length=l.length/\∀(i:Nat) a,l[i]?=some a ->∃q,ks[i]?=some q/\(a= .c (.ptr q 0) \/a= .c (.row q))
 |[],ks,h=>by
  obtain rfl:=JB h;exact⟨rfl,λi a j=>by simp at j⟩
 |a::r,ks,h=>by
  have h:(match (generalizing:=false) a with
   | .c (.ptr k 0)=>match rO r with
    |some r=>some (k::r)
    |none=>none
   | .c (.row k)=>match rO r with
    |some r=>some (k::r)
    |none=>none
   |_=>none)=some ks:=h
  have d:∀q,(a= .c (.ptr q 0) \/a= .c (.row q)) ->(match rO r with
    |some r=>some (q::r)
    |none=>none)=some ks ->ks.length=(a::r).length/\∀(i:Nat) b,(a::r)[i]?=some b ->∃q,ks[i]?=some q/\(b= .c (.ptr q 0) \/b= .c (.row q)):=λq m h=>by
   split at h
   ·rename_i p e
    obtain rfl:=JB h;obtain⟨t,u⟩:=yQ' e;refine⟨by simp[t],λi b g=>?_⟩;cases i with
    |zero=>
     obtain rfl:=JB g;exact⟨q,rfl,m⟩
    |succ i=>exact u i b g
   ·cases h
  split at h
  ·exact d _ (.inl rfl) h
  ·exact d _ (.inr rfl) h
  ·cases h
theorem I6{f:Fn}{cs:Array Operand}{aes:List AV}(y:o.op= .makeFunc f #[] cs)(d:aes.length=cs.toList.length)(has:∀(i:Nat) x,cs.toList[i]?=some x ->∃a,aes[i]?=some a/\ao A x=some a/\Lv A a.refs)(h:yx n o k f aes):cv w0 X C0 P τ n o A k:=by
 unfold yx at h;split at h
 ·rename_i g D p
  refine dc h λA' s w C ρ E F=>?_;obtain⟨r,H,I,L⟩:=F.ops E (λx t=>by rw[y];exact t) d has;obtain⟨R,M⟩:=yQ' p;refine⟨.func (.func g) #[] r.toArray,λS=>?_,λK U N=>?_⟩
  ·have e:r=D.map ρ:=by
    refine List.ext_getElem? λi=>?_;rw[JX];cases u:r[i]? with
    |none=>
     rw[QF (by have:=List.getElem?_eq_none_iff.1 u;omega)]
     rfl
    |some v=>
     have V:=aM u;have z:aes[i]?=some aes[i]:=gE;obtain⟨q,q1,j⟩:=M i _ z;rw[q1];have m:=L i _ v z u;show some v=some (ρ q);rcases j with j|j
     ·rw[j]at m
      obtain⟨b,O,Q⟩:=m;rw[O,Q]
     ·rw[j]at m
      exact KG some m
   show _=_;rw[e]
  ·unfold aV
   simp only[y];exact oT (l:=[]) (vs:=[]) rfl (λi x t=>by simp at t) (oT H I N)
 ·exact h.elim
theorem I7{T:TypeId}(l:o.op= .makeMap T none)(h:HO' n o k):cv w0 X C0 P τ n o A k:=by
 unfold HO' at h;split at h
 ·rename_i d m
  split at h
  ·rename_i p
   obtain⟨Q,r,h⟩:=h.go;refine⟨_,_,_,h,λA' s w K z D i e u=>?_⟩;obtain⟨C,ρ,e⟩:=e;have i:=i d Ud;unfold aV;simp only[l];refine run (w':=w.alloc (.map #[] 0)) (v:=.map (some w.heap.size)) (by simp[Instr.makeMap]) ?_;rw[m];unfold put;simp only[p];obtain⟨E,F⟩:=s;refine u _ _ ⟨C,jX ρ d (.map (some w.heap.size)),e.fresh (wr:=[(d,.c (.row d))]) (x:=.ob 0 Q) i (Kp.alloc _ _) (λg y=>?_) ⟨w.heap.size,.map #[] 0,gj _ _ _,?_,r,.inl ⟨rfl,e.kp.size⟩⟩ (λt a b=>?_) λt b=>?_⟩ rfl
   ·obtain rfl:=JB y
    exact KJ _
   ·show (w.heap.push _)[_]?=_
    simp
   ·obtain⟨rfl,rfl⟩:=bI b
    refine⟨.map (some w.heap.size),?_,(gj _ _ _).symm⟩;rw[eV,Nat.beq_refl]
   ·rw[cI]at b
    rw[eV];cases j:Nat.beq d t with
    |true=>rw[j]at b;cases b
    |false=>rfl
  ·exact h.elim
 ·exact h.elim
theorem I8{T:TypeId}{x y:Operand}{ok:Bool}{a b:AV}(l:o.op= .lookup T x y ok)(ha:ao A x=some a)(m:Lv A a.refs)(hb:ao A y=some b)(p:Lv A b.refs)(h:yy P n o A k T ok a b):cv w0 X C0 P τ n o A k:=by
 have d:x∈av' o.op:=by rw[l];simp[av']
 have t:y∈av' o.op:=by rw[l];simp[av']
 unfold yy at h;split at h
 ·rename_i j
  split at h
  ·rename_i g Q H
   obtain⟨r,i,h⟩:=h.go;refine dc h λA' s w C ρ z D=>?_;obtain⟨_,v,I,E⟩:=D.op z d ha m;obtain⟨_,u,L,F⟩:=D.op z t hb p;have E:v=ρ j:=E;subst E;obtain⟨q,M,e,N,O,_⟩:=D.ent j _ (z.at (by rw[l];rfl) d ha (by simp[AV.refs,AC.refs]) H);obtain⟨v,R,S⟩:=i C ρ u q w M F N O;refine⟨v,λ_=>R,λK V U=>?_⟩;unfold aV;simp only[l];refine aW I (aW L ?_);rw[e];exact run S U
  ·exact h.elim
 ·exact h.elim
theorem I9{T:TypeId}{x y z:Operand}{a b c:AV}(F:o.op= .mapUpdate T x y z)(ha:ao A x=some a)(W:Lv A a.refs)(hb:ao A y=some b)(Y:Lv A b.refs)(hc:ao A z=some c)(Z:Lv A c.refs)(h:yz P n o A k T a b c):cv w0 X C0 P τ n o A k:=by
 have H:x∈av' o.op:=by rw[F];simp[av']
 have a0:y∈av' o.op:=by rw[F];simp[av']
 have a1:z∈av' o.op:=by rw[F];simp[av']
 unfold yz at h;split at h
 ·rename_i j
  split at h
  ·rename_i g Q hm
   obtain⟨Q',I,h⟩:=h.go;obtain⟨wr,L,hw,M⟩:=kA h;refine⟨wr,_,[],L,λA' s w K kp U _ l hK=>?_⟩;obtain⟨C,ρ,l⟩:=l;obtain⟨_,v,hv,hr⟩:=l.op U H ha W;obtain⟨_,u,hu,a2⟩:=l.op U a0 hb Y;obtain⟨_,t,ht,a3⟩:=l.op U a1 hc Z;have hr:v=ρ j:=hr;subst hr;have d:=U.at (by rw[F];rfl) H ha (by simp[AV.refs,AC.refs]) hm;obtain⟨q,ob,e,E,h2,h3⟩:=l.ent j _ d;obtain⟨N,g1,g2⟩:=I C ρ u t q w ob a2 a3 E h2;have hq:q<w.heap.size:=(Array.getElem?_eq_some_iff.1 E).1;have O:Kp [q] w {w with heap:=w.heap.setIfInBounds q N}:=⟨rfl,rfl,rfl,Ud,λi _ r=>by
    have:q≠i:=λe=>r (by simp[e]);simp[Array.getElem?_setIfInBounds_ne this]⟩
   unfold aV;simp only[F];refine aW hv (aW hu (aW ht ?_));rw[e];refine tS g2<|M s _ _ λs' f1 f2 f3=>hK s' _ ⟨C,ρ,?_⟩ f3;have m:blk (ρ j)=some q:=by rw[e];rfl
   refine l.step [] (λ_ _=>rfl) (λk L=>by cases L) (λk L=>by cases L) (λk x r _=>?_) O (λz hz=>?_) (λ_ _ _ h=>h) (l.sub.kp O λV o' v' D p=>?_) (λ_ _ _ h=>.inl ⟨_,_,h⟩) (λk x r=>?_) (λk x V r a6 p=>?_) (λt a R _=>⟨_,f1 t a R,by have:=hw t a R;subst this;exact RV.raw _⟩) f2
   ·obtain⟨rfl,rfl⟩:=bI r
    exact .inr ⟨_,d,rfl⟩
   ·obtain rfl:z=q:=by simpa using hz
    exact⟨j,_,_,mF _ _ _,d,rfl,m⟩
   ·obtain rfl:V=q:=by simpa using p
    exact l.off j _ V V o' v' d rfl m D rfl
   ·obtain⟨rfl,rfl⟩:=bI r
    exact⟨q,N,e,by simp[hq],g1,h3⟩
   ·obtain⟨rfl,rfl⟩:=bI r
    rw[m]at p;obtain rfl:=JB p;refine⟨λi y S hi a4 a5=>?_,λb' o' v' D e1=>?_⟩
    ·rcases look_app_some hi with E|⟨_,E⟩
     ·exact S (bI E).1
     ·exact l.sep i k y _ q S E a4 d rfl a5 m
    ·exact l.off k _ q b' o' v' d rfl m D e1
  ·exact h.elim
 ·exact h.elim
theorem Df{l:List Nat}(h:pX A l=true):∀k∈l,∃g T cs,look A.m k=some (.st g T cs):=by
 induction l with
 |nil=>intro k a;cases a
 |cons x r b=>
  have h:(match look A.m x with
   |some (.st _ _ _)=>pX A r
   |_=>false)=true:=h
  split at h
  ·rename_i g T cs d
   intro k a;rcases List.mem_cons.1 a with rfl|a
   ·exact⟨g,T,cs,d⟩
   ·exact b h k a
  ·cases h
theorem Ja{pn:List PanicEntry ->List Nat ->Prop}{c:Call}{f:FuncId}{aes:List AV}{q q' qc:Option (List PV)}(g:o.op= .call c)(hc:c.callee= .value (.func f))(d:aes.length=c.args.toList.length)(has:∀(i:Nat) x,c.args.toList[i]?=some x ->∃a,aes[i]?=some a/\ao A x=some a/\Lv A a.refs)(h:gk P n o A k pn f aes q q' qc):pV w0 X C0 P τ n o A k pn:=by
 have b:∀x∈c.args.toList,x∈av' o.op:=λx e=>by rw[g];exact QW _ e
 refine yt (by rw[g];simp only[iS',hc]) (λk p=>?_) (λA' s w C ρ r t=>?_) h
 ·obtain⟨a,u,j⟩:=x5 p
  obtain⟨i,l⟩:=JH u;have v:=aM l;have e:c.args.toList[i]?=some c.args.toList[i]:=gE;obtain⟨I,m,y,_⟩:=has i _ e;rw[l]at m;obtain rfl:=JB m;exact nN (b _ (JQ e)) y k j
 ·obtain⟨z,D,E,F⟩:=t.ops r b d has
  refine⟨z,Uo,F,λK L H=>?_⟩;unfold aV;simp only[g,hc];refine aW (rfl:ev s.e (.func f)=some (.func (.func f) #[] #[])) (oT D E ?_);unfold tM;simp only[Array.append_empty,Array.empty_append];exact H
theorem Jb{pn:List PanicEntry ->List Nat ->Prop}{c:Call}{t:Nat}{f:FuncId}{ks:List Nat}{aes:List AV}{q q' qc:Option (List PV)}(r:o.op= .call c)(hc:c.callee= .value (.tmp t))(H:ao A (.tmp t)=some (.c (.fn f ks)))(I:Lv A (AV.c (.fn f ks)).refs)(L:pX A ks=true)(u:aes.length=c.args.toList.length)(has:∀(i:Nat) x,c.args.toList[i]?=some x ->∃a,aes[i]?=some a/\ao A x=some a/\Lv A a.refs)(h:gk P n o A k pn f (aes++jD ks) q q' qc):pV w0 X C0 P τ n o A k pn:=by
 have l:∀x∈c.args.toList,x∈av' o.op:=λx E=>by rw[r];exact QW _ E
 have m:Operand.tmp t∈av' o.op:=by rw[r];exact QV _ (by rw[hc];simp)
 refine yt (by rw[r];simp only[iS',hc]) (λk R=>?_) (λA' s w C ρ M N=>?_) h
 ·obtain⟨a,d,y⟩:=x5 R
  rcases List.mem_append.1 d with d|d
  ·obtain⟨i,p⟩:=JH d
   have S:=aM p;have E:c.args.toList[i]?=some c.args.toList[i]:=gE;obtain⟨a',Q,U,_⟩:=has i _ E;rw[p]at Q;obtain rfl:=JB Q;exact nN (l _ (JQ E)) U k y
  ·obtain⟨q,z,rfl⟩:=List.mem_map.1 d
   obtain rfl:k=q:=by simpa[AV.refs,AC.refs]using y
   exact nN m H k z
 ·obtain⟨F,V,W,Y⟩:=N.ops M l u has
  obtain⟨_,v,Z,O⟩:=N.op M m H I;have O:v= .func (.func f) #[] (ks.map ρ).toArray:=O;subst O;refine⟨F++ks.map ρ,by simp[jD];omega,λi a v d j=>?_,λK kp hE=>?_⟩
  ·rcases Nat.lt_or_ge i aes.length with p|p
   ·rw[QH p]at d
    rw[QH Uo]at j;exact Y i a v d j
   ·rw[QU p]at d
    rw[QU Uo,show i-F.length=i-aes.length by omega,JX]at j;unfold jD at d;rw[JX]at d;cases z:ks[i-aes.length]? with
    |none=>rw[z]at d;cases d
    |some q=>
     rw[z]at d j;obtain rfl:=JB d;obtain rfl:=JB j;have D:=JQ z;obtain⟨g,T,cs,hm⟩:=Df L q D;obtain⟨b,us,e,_⟩:=N.ent q _ (M.at (It r hc) m H D hm);exact⟨b,e,e⟩
  ·unfold aV
   simp only[r,hc];refine aW Z (oT V W ?_);unfold tM;simp only[Array.empty_append];rw[show F.toArray++(ks.map ρ).toArray=(F++ks.map ρ).toArray by simp];exact hE
theorem Jc{pn:List PanicEntry ->List Nat ->Prop}{c:Call}{t:Nat}{f:FuncId}{z:PV}{aes:List AV}{q q' qc:Option (List PV)}(m:o.op= .call c)(hc:c.callee= .value (.tmp t))(Q:ao A (.tmp t)=some (.c (.p (.bd f z))))(g:aes.length=c.args.toList.length)(has:∀(i:Nat) x,c.args.toList[i]?=some x ->∃a,aes[i]?=some a/\ao A x=some a/\Lv A a.refs)(h:gk P n o A k pn f (.c (.p z)::aes) q q' qc):pV w0 X C0 P τ n o A k pn:=by
 have b:∀x∈c.args.toList,x∈av' o.op:=λx r=>by rw[m];exact QW _ r
 have y:Operand.tmp t∈av' o.op:=by rw[m];exact QV _ (by rw[hc];simp)
 refine yt (by rw[m];simp only[iS',hc]) (λk D=>?_) (λA' s w C ρ I L=>?_) h
 ·obtain⟨a,d,j⟩:=x5 D
  rcases List.mem_cons.1 d with rfl|d
  ·cases j
  ·obtain⟨i,M⟩:=JH d
   have R:=aM M;have r:c.args.toList[i]?=some c.args.toList[i]:=gE;obtain⟨Z,N,S,_⟩:=has i _ r;rw[M]at N;obtain rfl:=JB N;exact nN (b _ (JQ r)) S k j
 ·obtain⟨E,U,V,W⟩:=L.ops I b g has
  obtain⟨_,v,Y,F⟩:=L.op I y Q (λk D=>by cases D);have F:RV C (.bd f z) v:=F;obtain⟨u,H,rfl⟩:∃u,RV C z u/\v= .func (.func f) #[u] #[]:=by
   cases F with
   |bd _ _ u H=>exact⟨u,H,rfl⟩
  refine⟨u::E,Uk,λi a v d l=>?_,λK kp O=>?_⟩
  ·cases i with
   |zero=>
    obtain rfl:=JB d;obtain rfl:=JB l;exact H
   |succ i=>exact W i a v d l
  ·unfold aV
   simp only[m,hc];refine aW Y (oT U V ?_);have e:(#[u]++E.toArray++ #[]:Array Value)=(u::E).toArray:=Ud
   rw[<- e]at O;exact O
end
def Flat{α:Type}(R:Rd α):Prop:=∀(C C':Mem) (cs:List Value) (x:α),R.den C cs x ->R.den C' cs x
theorem HR':Flat wv':=λ_ _ _ _ h=>h
theorem Dg{α:Type}{R:Rd α}{C:Mem}{b:Nat}:∀(l:List α) (o:Nat),(∀i x,l[i]?=some x ->R.At C b (o+i*R.sz) x) ->∃css,All2 (R.den C) css l/\∀i x j u,css[i]?=some x ->x[j]?=some u ->C b (o+i*R.sz+j) u
 |[],o,h=>⟨[],trivial,λi x j u hi=>by simp at hi⟩
 |y::r,o,h=>by
  obtain⟨cs,h1,h2⟩:=h 0 y rfl;obtain⟨css,d,e⟩:=Dg r (o+R.sz) (λi x hi=>by
   have:=h (i+1) x (by simpa using hi)
   rwa [show o+(i+1)*R.sz=o+R.sz+i*R.sz by rw[Nat.add_mul];omega]at this)
  refine⟨cs::css,⟨h1,d⟩,λi x j u hi a=>?_⟩
  match i with
  |0=>
   simp at hi;subst hi;exact h2 j u a
  |i+1=>
   have:=e i x j u (by simpa using hi) a
   rwa [show o+(i+1)*R.sz+j=o+R.sz+i*R.sz+j by rw[Nat.add_mul];omega]
theorem Own.apF{α:Type}{R:Rd α}{e lo:Nat}{w:World}{v:Value}{l:List α}{P:Program}{τ:Tau}(g:aS P τ){T bs:Nat}(y:look τ.slcs T=some (e,R.sz,bs)){z:List Value}(D:τ.zero e=some z)(hsz:0<R.sz){k:Value ->World ->Prop}{c ty:Nat}{a:Option Addr}
  (h:Own R e lo w v l) (F:Flat R) {C:Mem} (H:Sub C w) (xs:List α) (r:Sl R C a xs)
  (d:(l.length+xs.length)*bs<=140737488355328) (m:l.length+xs.length<=maxLen)
  (E:∀p w',Own R e lo w' p (l++xs) ->Kp v.ownBlock.toList w w' ->(p.ownBlock=v.ownBlock \/p.ownBlock=some w.heap.size) ->k p w'):EvRun P (Builtin.append_ #[T,T] ty #[v,.slice a xs.length c]) w k:=by
 rcases r.2 with I|⟨b,o,rfl,L⟩
 ·have:xs=[]:=List.length_eq_zero_iff.1 I
  subst this;exact h.ap g y D hsz [] [] rfl trivial (.inl rfl) d m E
 ·obtain⟨t,M,N⟩:=Dg xs o L
  exact h.ap g y D hsz xs t rfl (M.mono λcs x r=>F _ _ _ _ r) (.inr ⟨b,o,rfl,λi x j u O Q=>H _ _ _ (N i x j u O Q)⟩) d m E
theorem Own.cap{α:Type}{R:Rd α}{e lo:Nat}{w:World}{v:Value}{l:List α}(h:Own R e lo w v l):∃a cap,v= .slice a l.length cap/\l.length<=cap:=by
 obtain⟨b,d,_⟩:=h.row;rcases d.2 with ⟨rfl,g⟩|⟨m,cap,i,rfl,_,_,j,_⟩
 ·exact⟨none,0,by rw[g],Uo⟩
 ·exact⟨_,cap,rfl,j⟩
theorem Sub.lt{C:Mem}{w:World}(h:Sub C w):∀b o v,C b o v ->b<w.heap.size:=λb o v a=>(h b o v a).lt
theorem yA{P:Program}{τ:Tau}(a:aS P τ){T:Nat}{fs:List (Nat×Nat×Bool)}{z:List Nat}(hr:look τ.tab T=some (fs,z)){b:Nat}{w:World}{K:Value ->Prop}(cs:List Value)(hl:cs.length=z.length)(hc:∀j v,cs[j]?=some v ->Cl w.heap b j v)(g:K (.agg cs.toArray)):
  EvRun P (loadVar T ⟨b,0,none⟩) w λv w'=>w'=w/\K v:=by
 obtain⟨r,h,l,e,i,m,d,t⟩:=a.tab T fs z hr;have:=run_loadCells_list (P:=P) (w:=w) ⟨b,0,none⟩ cs (λj v p=>by rw[pN,KW];exact(hc j v p).cell);rw[hl]at this;refine run (v:=.agg cs.toArray) (w':=w) ?_ ⟨rfl,g⟩;simp[loadVar,isAgg,run_underlying h,sizeOf,typeInfo,m,d,this]
theorem Dh{P:Program}{τ:Tau}(b:aS P τ){T e sz bs:Nat}(d:look τ.slcs T=some (e,sz,bs)){x y:Operand}{a:Option Addr}{n c:Nat}{w:World}{k:Value ->World ->Prop}(h:k (.bool a.isNone) w):
  EvRun P (do eqGuard .eql T x y (.slice a n c) (.slice none 0 0);binOp .eql T (.slice a n c) (.slice none 0 0)) w k:=by
 obtain⟨g,_⟩:=b.slcs T e sz bs d;refine run (v:=.bool a.isNone) ?_ h;rw[eqGuard_at_slice];simp only[Sem.run_bind,Sem.run_pure,Result.andThen_ok];exact Lib.run_eql_slice_nil w T e a n c 0 0 g
theorem Di{α:Type}{k:Nat}:∀(css:List (List α)),(∀cs∈css,cs.length=k) ->∀(i j:Nat) (cs:List α) (u:α),css[i]?=some cs ->j<k ->(css.set i (cs.set j u)).flatten=css.flatten.set (i*k+j) u
 |[],_,i,j,cs,u,h1,_=>by simp at h1
 |c::r,h,0,j,cs,u,h1,h2=>by
  simp at h1;subst h1;have hc:=h c Ud;rw[List.set_cons_zero,List.flatten_cons,List.flatten_cons,Nat.zero_mul,KW,List.set_append_left _ _ Uo]
 |c::r,h,i+1,j,cs,u,h1,h2=>by
  have hc:=h c Ud;have:=Di r (λc hc=>h c (by simp[hc])) i j cs u (by simpa using h1) h2;rw[List.set_cons_succ,List.flatten_cons,List.flatten_cons,this,List.set_append_right _ _ (by rw[hc,Nat.add_mul];omega)];rw[show (i+1)*k+j-c.length=i*k+j by rw[hc,Nat.add_mul];omega]
def ji(l:List AC):Option (List PV):=List.rec (motive:=λ_=>Option (List PV)) (some []) (λc _ ih=>match c with
 | .p x=>match ih with
  |some r=>some (x::r)
  |none=>none
 |_=>none) l
theorem nj':∀{cs:List AC} {xs:List PV},ji cs=some xs ->cs=xs.map .p
 |[],xs,h=>by
  obtain rfl:=JB h
  rfl
 |c::r,xs,h=>by
  cases c with
  |p x=>
   have h:(match ji r with
    |some r=>some (x::r)
    |none=>none)=some xs:=h
   split at h
   ·rename_i b a
    obtain rfl:=JB h;rw[nj' a]
    rfl
   ·cases h
  |_=>
   have h:none=some xs:=h;cases h
def rR(b:AV):Option (List PV):=match b with
 | .c x=>match x with
  | .p y=>match y with
   | .agg ys=>some ys
   |_=>none
  |_=>none
 | .agg cs=>ji cs
 | .tp _=>none
theorem Jd{C:Mem}{ρ:Nat ->Value}{b:AV}{ys:List PV}{u:Value}(h:rR b=some ys)(hr:RA C ρ b u):RV C (.agg ys) u:=by
 cases b with
 |c x=>
  cases x with
  |p y=>
   cases y with
   |agg m=>
    obtain rfl:=JB h;exact hr
   |_=>cases h
  |_=>cases h
 |agg cs=>
  have h:ji cs=some ys:=h;have e:=nj' h;obtain⟨a,rfl,d,g⟩:=hr;refine RV.agg ys a (by rw[d,e,KF]) λi y u j l=>?_;exact g i (.p y) u (by rw[e,JX,j];rfl) l
 |tp cs=>cases h
theorem Je{P:Program}{w:World}{b o:Nat}{vs:List Value}{k:World ->Prop}{cs:List Value}{T:TypeId}(hb:Bk w.heap b cs T)(V:o+vs.length<=cs.length)(Q:∀v∈vs,v.oneCell'=true)
  (R:∀w',Bk w'.heap b (cs.take o++(vs++cs.drop (o+vs.length))) T ->w'.heap.size=w.heap.size ->Kp [b] w w' ->k w'):EvRunU P (storeCells ⟨b,o,none⟩ vs) w k:=by
 have F:∀(r:List Value) (i:Nat) (w0:World) (d:List Value),(∀v∈r,v.oneCell'=true) ->d.length=o+i ->(∃a,Bk w0.heap b (d++a) T/\r.length<=a.length/\a.drop r.length=cs.drop (o+vs.length)) ->w0.heap.size=w.heap.size ->Kp [b] w w0 ->
   ∃w',(storeCells ⟨b,o,none⟩ r i).run P w0= .ok () w'/\Bk w'.heap b (d++(r++cs.drop (o+vs.length))) T/\w'.heap.size=w.heap.size/\Kp [b] w w':=by
  intro r
  induction r with
  |nil=>
   intro i w0 d _ _ ⟨a,g,e,h⟩ j l;have h:a=cs.drop (o+vs.length):=by simpa using h
   exact⟨w0,by simp[storeCells],by rw[List.nil_append,<- h];exact g,j,l⟩
  |cons v r S=>
   intro i w0 d t m ⟨a,g,e,h⟩ j l
   match a,e,h with
   |u::a,e,h=>
   have p:w0.cell? ⟨b,o+i,none⟩=some u:=(g.cl (by rw[<- m];simp)).cell;have y:w0.heap[b]?=some (.cells (d++u::a).toArray T (0,0)):=g;have z:=run_store P w0 ⟨b,o+i,none⟩ v .plain (t v Ud);have H:w0.frozen? ⟨b,o+i,none⟩=false:=by simp[World.frozen?,y]
   simp only[p,H,Bool.false_eq_true,if_false]at z;have D:(⟨b,o,none⟩:Addr).add i=⟨b,o+i,none⟩:=by
    unfold Addr.add;split
    ·rename_i U;subst U;rfl
    ·rfl
   have E:Bk (w0.setCell ⟨b,o+i,none⟩ v).heap b ((d++[v])++a) T:=by
    unfold Bk;simp only[World.setCell,Array.getElem?_modify,if_true,y];rw[<- m];simp
   obtain⟨w',I,L,M,N⟩:=S (i+1) (w0.setCell ⟨b,o+i,none⟩ v) (d++[v]) (λx O=>t x (by simp[O])) (by simp[m];omega) ⟨a,E,by simpa using e,by simpa using h⟩ (by simp[World.setCell,j])
    (l.trans (Kp.set w0 ⟨b,o+i,none⟩ v) (λx O _=>O))
   refine⟨w',?_,by simpa using L,M,N⟩;simp only[storeCells,Sem.run_bind,D,z,Result.andThen_ok];exact I
 obtain⟨w',I,L,M,N⟩:=F vs 0 w (cs.take o) Q (by rw[VJ];omega) ⟨cs.drop o,by rw[List.take_append_drop];exact hb,by rw[VK];omega,by rw[List.drop_drop]⟩ rfl (Kp.refl _ _);exact tS I (R w' L M N)
theorem Dj{α:Type}{k:Nat}:∀(css:List (List α)),(∀cs∈css,cs.length=k) ->∀(i:Nat) (cs vs:List α),css[i]?=some cs ->vs.length=k ->(css.set i vs).flatten=css.flatten.take (i*k)++(vs++css.flatten.drop (i*k+k))
 |c::r,h,0,cs,vs,h1,h2=>by
  have hc:=h c Ud;rw[List.set_cons_zero,List.flatten_cons,List.flatten_cons,Nat.zero_mul,List.take_zero,List.nil_append,KW,<- hc,List.drop_left]
 |c::r,h,i+1,cs,vs,h1,h2=>by
  have hc:=h c Ud;have a:=Dj r (λx b=>h x (by simp[b])) i cs vs (by simpa using h1) h2;have d:i*k+k=c.length+i*k:=Uo
  have e:i*k+k+k=c.length+(i*k+k):=Uo
  have g:List.take (i*k+k) (c++r.flatten)=c++List.take (i*k) r.flatten:=by rw[d,List.take_length_add_append]
  rw[List.set_cons_succ,List.flatten_cons,List.flatten_cons,a,Nat.succ_mul,g,e,List.drop_length_add_append,List.append_assoc]
section
variable{w0:World}{X:List Nat}{C0:Mem}{P:Program}{τ:Tau}{n:Nat}{o:Oper}{A A':AS}{k:Kk}{s s':St}{w w':World}{C C':Mem}{ρ:Nat ->Value}
theorem Rp.modRw(h:Rp w0 X C0 A' s w C ρ){j b e sz:Nat}{l l':List (List PV)}(hm:look A'.m j=some (.rw e sz l))(d:blk (ρ j)=some b)(i:Kp [b] w w'){wr:List (Nat×AV)}(m:RE w0.heap.size X (A'.upd wr [(j,.rw e sz l')]) C ρ w' j (.rw e sz l'))
  (p:∀t a,look wr t=some a ->∃v,get s'.e t=some v/\RA C ρ a v) (g:∀t,look wr t=none ->get s'.e t=get s.e t):
  Rp w0 X C0 (A'.upd wr [(j,.rw e sz l')]) s' w' C ρ:=h.modR hm (by rw[d];exact i) m p g
theorem Rp.row_at(h:Rp w0 X C0 A s w C ρ){j e sz i:Nat}{l:List (List PV)}(hm:look A.m j=some (.rw e sz l))(hi:i<l.length)(hsz:1<=sz):
  ∃(b cap:Nat) (css:List (List Value)) (a:List Value),ρ j= .slice (some ⟨b,0,none⟩) l.length cap/\(w0.heap.size<=b \/b∈X)/\Bk w.heap b a e/\l.length<=cap/\cap<=maxLen/\a.length=cap*sz/\a.take (l.length*sz)=css.flatten/\(∀x∈l,x.length=sz)/\css.length=l.length/\(∀us∈css,us.length=sz)/\∀(i:Nat) (us:List Value) x,css[i]?=some us ->l[i]?=some x ->∀(j:Nat) y u,x[j]?=some y ->us[j]?=some u ->u.oneCell'=true/\RV C y u:=by
 obtain⟨css,⟨⟨D,E⟩,m⟩,F,H,t⟩:=h.ent j _ hm;have d:∀us∈css,us.length=sz:=λus p=>by
  obtain⟨q,v⟩:=JH p;have I:=aM v;exact(t q us _ v (gE)).1
 rcases E with ⟨_,S⟩|⟨g,cap,a,z,U,L,M,N,r,O⟩
 ·omega
 ·exact⟨g,cap,css,a.toList,z,m g (by rw[z];rfl),by unfold Bk;simpa using L,M,N,by simpa using r,O,F,H,d,λi us x Q R=>(t i us x Q R).2⟩
theorem Dk{w0:World}{wr:List (Nat×AV)}{wm:List (Nat×SE)}{j e sz i b cap:Nat}{l:List (List PV)}{css:List (List Value)}{a:List Value}(I:ρ j= .slice (some ⟨b,0,none⟩) l.length cap)(hb:w0.heap.size<=b \/b∈X)(Q:Bk w'.heap b a e)(L:l.length<=cap)(hc:cap<=maxLen)(t:a.length=cap*sz)(hl:∀x∈l,x.length=sz)(v:css.length=l.length)(D:∀us∈css,us.length=sz)
  (d:∀(i:Nat) (us:List Value) x,css[i]?=some us ->l[i]?=some x ->∀(j:Nat) y u,x[j]?=some y ->us[j]?=some u ->u.oneCell'=true/\RV C y u)
  {ys:List PV} {us:List Value} (hi:i<l.length) (E:ys.length=sz) (F:us.length=sz) (H:∀(j:Nat) y u,ys[j]?=some y ->us[j]?=some u ->u.oneCell'=true/\RV C y u) (M:a.take (l.length*sz)=(css.set i us).flatten):
  RE w0.heap.size X (A.upd wr wm) C ρ w' j (.rw e sz (l.set i ys)):=by
 have m:∀z∈css.set i us,z.length=sz:=λz R=>by
  rcases List.mem_or_eq_of_mem_set R with h|rfl
  ·exact D z h
  ·exact F
 refine⟨css.set i us,⟨⟨?_,.inr ⟨b,cap,a.toArray,by rw[List.length_set];exact I,KV _,Q,by rw[List.length_set];exact L,hc,by simpa using t,by rw[List.length_set];exact M⟩⟩,λg N=>by
  rw[I]at N;obtain rfl:=JB N;exact hb⟩,λx p=>?_,by rw[List.length_set,List.length_set];exact v,λq S x r p=>?_⟩
 ·rw[List.length_set,<- M,VJ,t]
  exact Nat.min_eq_left (Nat.mul_le_mul_right _ L)
 ·rcases List.mem_or_eq_of_mem_set p with h|rfl
  ·exact hl x h
  ·exact E
 ·refine⟨m _ (JQ r),?_⟩
  rw[List.getElem?_set]at r p
  by_cases O:i=q
  ·subst O
   rw[KX rfl,KX Uo]at r;rw[KX rfl,KX hi]at p;obtain rfl:=JB r;obtain rfl:=JB p;exact H
  ·rw[KY O]at r p
   exact d q S x r p
section
variable(P:Program)(τ:Tau)(n:Nat)(o:Oper)(A:AS)(k:Kk)
def yB(T:Nat)(a b:AV):Prop:=match a with
 | .c (.rp j sz i off)=>match look A.m j with
  |some (.rw e sz' l)=>match Nat.beq sz' sz with
   |true=>match look τ.ones T with
    |some _=>match b with
     | .c (.p y)=>match y.one,Nat.ble (off+1) sz with
      |true,true=>pS l i λx=>fin n o.dst (.c (.p (.raw undef))) λwr=>k wr [(j,.rw e sz (l.set i (x.set off y)))] []
      |_,_=>False
     |_=>False
    |none=>match look τ.tab T,rR b,off with
     |some (_,z),some ys,0=>match Nat.beq ys.length z.length,Nat.beq ys.length sz,ys.all PV.one,Nat.ble 1 sz with
      |true,true,true,true=>pS l i λ_=>fin n o.dst (.c (.p (.raw undef))) λwr=>k wr [(j,.rw e sz (l.set i ys))] []
      |_,_,_,_=>False
     |_,_,_=>False
   |false=>False
  |_=>False
 |a=>x9 τ n o A k T a b
end
theorem Jf{T:Nat}{x y:Operand}{a b:AV}(W:o.op= .store T x y)(ha:ao A x=some a)(Y:Lv A a.refs)(hb:ao A y=some b)(Z:Lv A b.refs)(h:yB τ n o A k T a b):cv w0 X C0 P τ n o A k:=by
 have R:x∈av' o.op:=by rw[W];simp[av']
 have a4:y∈av' o.op:=by rw[W];simp[av']
 unfold yB at h;split at h
 ·rename_i j sz i S
  split at h
  ·rename_i e d l hm
   split at h
   ·rename_i a9
    obtain rfl:=QJ a9;split at h
    ·rename_i t1 a0
     split at h
     ·rename_i z
      split at h
      ·rename_i D a5
       have a5:=QX a5
       replace h:=h.go
       obtain⟨xs,H,h⟩:=h;have I:=aM H;obtain⟨wr,hk,hw,L⟩:=kA h;refine⟨wr,_,[],hk,λA' s w K kp hA _ E hK=>?_⟩;obtain⟨C,ρ,E⟩:=E;have M:=hA.at (by rw[W];rfl) R ha (by simp[AV.refs,AC.refs]) hm;obtain⟨_,v,hv,q,n',c',g,rfl⟩:=E.op hA R ha Y;obtain⟨_,u,hu,m⟩:=E.op hA a4 hb Z;have m:RV C z u:=m;have a6:=m.one D;obtain⟨b,a1,p,a7,g1,g2,g3,g4,g5,g6,g7,g8,g9,F,U⟩:=E.row_at M I Uo;rw[g1]at g;injection g with g
       injection g with g
       injection g with g
       subst g;have N:p[i]?=some p[i]:=gE;have a':=F _ (JQ N);have b0:=g8 xs (JQ H);have b1:i*d+S<l.length*d:=by
        have:(i+1)*d<=l.length*d:=Nat.mul_le_mul_right _ Uo;rw[Nat.add_mul]at this;omega
       have a8:l.length*d<=a1*d:=Nat.mul_le_mul_right _ g4;unfold aV;simp only[W];refine aW hv (aW hu ?_);simp only[a0];refine Go.Wx.st g3 Uo a6 λw' a2 b2 a3=>L s _ _ λs' h1 h2 h3=>hK s' w' ⟨C,ρ,E.modRw M (by rw[g1];rfl) a3 (Dk (us:=p[i].set S u) g1 g2 a2 g4 g5 (by rw[List.length_set];exact g6) g8 g9 F U I (by rw[List.length_set];exact b0) (by rw[List.length_set];exact a') (λr y' u' V O=>?_) ?_) (λt a Q=>⟨_,h1 t a Q,by have:=hw t a Q;subst this;exact RV.raw _⟩) h2⟩ h3
       ·rw[List.getElem?_set]at V O
        by_cases e1:S=r
        ·subst e1
         rw[KX rfl,KX Uo]at V O;obtain rfl:=JB V;obtain rfl:=JB O;exact⟨a6,m⟩
        ·rw[KY e1]at V O
         exact U i _ xs N H r y' u' V O
       ·rw[Di p F i S _ u N Uo,<- g7,List.take_set]
      ·exact h.elim
     ·exact h.elim
    ·rename_i a0
     split at h
     ·rename_i fs z ys hz b3
      split at h
      ·rename_i q1 q2 q3 q4
       have q1:=QJ q1;have q2:=QJ q2;have q4:=QX q4
       replace h:=h.go
       obtain⟨xs,H,h⟩:=h;have I:=aM H;obtain⟨wr,hk,hw,L⟩:=kA h;refine⟨wr,_,[],hk,λA' s w K kp hA _ E hK=>?_⟩;obtain⟨C,ρ,E⟩:=E;have M:=hA.at (by rw[W];rfl) R ha (by simp[AV.refs,AC.refs]) hm;obtain⟨_,v,hv,q,n',c',g,rfl⟩:=E.op hA R ha Y;obtain⟨_,u,hu,m⟩:=E.op hA a4 hb Z;have m:RV C (.agg ys) u:=Jd b3 m;obtain⟨b,a1,p,a7,g1,g2,g3,g4,g5,g6,g7,g8,g9,F,U⟩:=E.row_at M I q4;rw[g1]at g;injection g with g
       injection g with g
       injection g with g
       subst g;have N:p[i]?=some p[i]:=gE;have b1:i*d+d<=l.length*d:=by
        have:(i+1)*d<=l.length*d:=Nat.mul_le_mul_right _ Uo
        rwa [Nat.succ_mul]at this
       have a8:l.length*d<=a1*d:=Nat.mul_le_mul_right _ g4;cases m with
       |agg _ us hl hh=>
        have D:∀(r:Nat) y u,ys[r]?=some y ->us[r]?=some u ->u.oneCell'=true/\RV C y u:=λr y u V hu=>⟨(hh r y u V hu).one (List.all_eq_true.1 q3 y (JQ V)),hh r y u V hu⟩
        unfold aV;simp only[W];refine aW hv (aW hu ?_);have e1:Nat.beq us.toArray.toList.length z.length=true:=by simp only[];rw[hl,q1];exact Nat.beq_refl _
        simp only[a0,hz,e1,Nat.add_zero];refine Je g3 Uo (λv hv=>?_) λw' a2 b2 a3=>L s _ _ λs' h1 h2 h3=>hK s' w' ⟨C,ρ,E.modRw M (by rw[g1];rfl) a3 (Dk (us:=us) g1 g2 a2 g4 g5 ?_ g8 g9 F U I q2 Uo D ?_) (λt a Q=>⟨_,h1 t a Q,by have:=hw t a Q;subst this;exact RV.raw _⟩) h2⟩ h3
        ·obtain⟨r,hr⟩:=JH hv
         have b4:=aM hr;exact(D r _ v (gE) hr).1
        ·simp only[JK,VJ,VK]
         omega
        ·rw[Dj p F i _ us N Uo,<- g7,List.take_take,List.drop_take,show us.length=d by omega]
         rw[List.take_append,List.take_take,VJ,List.take_append,show min (l.length*d) (i*d)=i*d by omega,show min (i*d) a7.length=i*d by omega,show us.length=d by omega];rw[show min (i*d) (l.length*d)=i*d by omega,JG (l:=us) Uo]
         congr 2
         rw[show l.length*d-i*d-d=l.length*d-(i*d+d) by omega]
      ·exact h.elim
     ·exact h.elim
   ·exact h.elim
  ·exact h.elim
 ·exact IP W ha Y hb Z h
end
def Jg(A:AS)(aes:List AV):Option (List PV):=match aes with
 |[]=>none
 |a::_=>match a with
  | .c (.ptr j _)=>match look A.m j with
   |some (.st _ _ cs)=>ji cs
   |_=>none
  |_=>none
def Dl(A:AS)(x:Option Operand)(k:Option AV ->Prop):Prop:=match x with
 |none=>k none
 |some y=>rd A y λa=>k (some a)
def pvA:AV ->Option PV
 | .c x=>match x with
  | .p y=>some y
  |_=>none
 | .agg cs=>match ji cs with
  |some ps=>some (.agg ps)
  |none=>none
 |_=>none
theorem Jh{C:Mem}{ρ:Nat ->Value}{a:AV}{x:PV}{v:Value}(h:pvA a=some x)(hr:RA C ρ a v):RV C x v:=by
 unfold pvA at h;split at h
 ·split at h
  ·obtain rfl:=JB h
   exact hr
  ·cases h
 ·split at h
  ·rename_i ps b
   obtain rfl:=JB h;obtain rfl:=nj' b;obtain⟨l,rfl,d,e⟩:=hr;exact .agg _ _ (by simpa using d) λi y u g j=>e i (.p y) u (by rw[JX,g];rfl) j
  ·cases h
 ·cases h
structure rS(P:Program)(T:Nat)(j:IntKind)(e:Int)(k:Prop):Prop where
 go:(∀w,(Instr.makeInterface T (.agg #[.int j e])).run P w= .ok (.iface T (.agg #[.int j e])) w)/\k
section
variable(P:Program)(τ:Tau)(n:Nat)
def yC(o:Oper)(k:Kk)(T:Nat)(a:AV):Prop:=match a with
 | .agg cs=>match cs with
  |[.p (.int j e)]=>rS P T j e (out n o k (.c (.p (.raw (.iface T (.agg #[.int j e]))))))
  |_=>False
 |_=>False
def yD(o:Oper)(k:Kk)(f:Fn)(a:AV):Prop:=match f,pvA a with
 | .func g,some x=>out n o k (.c (.p (.bd g x)))
 |_,_=>False
def V1(o:Oper)(A:AS)(k:Kk)(pn:List PanicEntry ->List Nat ->Prop):Prop:=match o.op with
 | .move x=>rd A x λa=>out n o k (unp a)
 | .assign x=>rd A x λa=>out n o k (unp a)
 | .pick c x y=>rd A c λa=>match a with
  | .c (.p (.bool t))=>Br t (rd A x λb=>out n o k b) (rd A y λb=>out n o k b)
  |_=>False
 | .alloc T=>x6 τ n o A k T
 | .box T x=>rd A x λa=>x7 n o A k T a
 | .build T ps=>xG A ps.toList λaes=>x8 τ n o A k T aes
 | .buildSlice T len ps=>xG A ps.toList λaes=>yd τ n o A k T len aes
 | .load T x=>rd A x λa=>xL τ n o A k T a
 | .store T x y=>rd A x λa=>rd A y λb=>yB τ n o A k T a b
 | .binOp op T x y _=>rd A x λa=>rd A y λb=>xQ P τ n o k op T x y a b
 | .unOp op _ x=>rd A x λa=>xR n o k op a
 | .convert src dst x=>rd A x λa=>xS τ n o k src dst a
 | .fieldAddr T x f=>rd A x λa=>xN τ n o k T f a
 | .field T x f=>rd A x λa=>xO τ n o k T f a
 | .indexAddr T x i=>rd A x λa=>rd A i λb=>xM P τ n o A k T a b
 | .extract x i=>rd A x λa=>xP n o k i a
 | .slice T x lo hi mx=>match mx with
  |none=>rd A x λa=>Dl A lo λl=>Dl A hi λh=>yf τ n o A k T a l h
  |some _=>False
 | .makeSlice T x y=>rd A x λa=>rd A y λb=>ym τ n o A k T a b
 | .nilCheck x=>rd A x λa=>match a with
  | .c (.ptr j off)=>out n o k (.c (.ptr j off))
  |_=>False
 | .makeInterface T x=>rd A x λa=>yC P n o k T a
 | .makeFunc f us cs=>match us with
  |⟨[]⟩=>ry A cs.toList λaes=>yx n o k f aes
  |⟨[x]⟩=>match cs with
   |⟨[]⟩=>rd A x λa=>yD n o k f a
   |_=>False
  |_=>False
 | .makeMap _ r=>match r with
  |none=>HO' n o k
  |some _=>False
 | .lookup T x i ok=>rd A x λa=>rd A i λb=>yy P n o A k T ok a b
 | .mapUpdate T m i x=>rd A m λa=>rd A i λb=>rd A x λc=>yz P n o A k T a b c
 | .panic x=>rd A x λa=>match a with
  | .c (.p (.raw (.iface t u)))=>pn [{v:=.iface t u,recovered:=false}] []
  |_=>False
 | .call c=>match c.callee with
  | .value f=>match f with
   | .func f=>ry A c.args.toList λaes=>gk P n o A k pn f aes (cL A aes) (cL A aes.tail) (Jg A aes)
   | .tmp t=>rd A (.tmp t) λa=>match a with
    | .c (.fn f ks)=>match pX A ks with
     |true=>ry A c.args.toList λaes=>gk P n o A k pn f (aes++jD ks) none none none
     |false=>False
    | .c (.p (.bd f x))=>ry A c.args.toList λaes=>gk P n o A k pn f (.c (.p x)::aes) none none none
    |_=>False
   |_=>False
  | .builtin b=>match b,c.args.toList,c.argTypes.toList with
   | .len,[x],[T]=>rd A x λa=>xT τ n o A k T a
   | .append,[x,y],[T,T']=>match look τ.slcs T' with
    |some _=>rd A x λa=>rd A y λb=>ye τ n o A k T a b
    |none=>rd A x λa=>rd A y λb=>yk τ n o A k T T' a b
   | .max,[x,y],_=>rd A x λa=>rd A y λb=>uf n o k true a b
   | .min,[x,y],_=>rd A x λa=>rd A y λb=>uf n o k false a b
   |_,_,_=>False
  |_=>False
 |_=>False
end
section
variable{w0:World}{X:List Nat}{C0:Mem}{P:Program}{τ:Tau}{n:Nat}{o:Oper}{A A':AS}{k:Kk}
theorem Ji{T:Nat}{x:Operand}{a:AV}(d:o.op= .makeInterface T x)(ha:ao A x=some a)(hl:Lv A a.refs)(h:yC P n o k T a):cv w0 X C0 P τ n o A k:=by
 unfold yC at h;split at h
 ·split at h
  ·rename_i j e
   obtain⟨g,h⟩:=h.go;refine dc h λA' s w C ρ i l=>?_;obtain⟨_,v,m,p,rfl,b,r⟩:=l.op i (x:=x) (by rw[d];simp[av']) ha hl
   match p,b with
   |[u],_=>
    have t:RV C (.int j e) u:=r 0 _ u rfl rfl;cases t;refine⟨.iface T (.agg #[.int j e]),λ_=>.raw _,λK z y=>?_⟩;unfold aV;simp only[d];refine aW m ?_;unfold EvRun;exact⟨_,w,g w,y⟩
  ·exact h.elim
 ·exact h.elim
theorem Jj{pn:List PanicEntry ->List Nat ->Prop}{x:Operand}{t:Nat}{u:Value}(b:o.op= .panic x)(ha:ao A x=some (.c (.p (.raw (.iface t u)))))(hl:Lv A (AV.c (.p (.raw (.iface t u)))).refs)(h:pn [{v:=.iface t u,recovered:=false}] []):pV w0 X C0 P τ n o A k pn:=by
 refine .inr ⟨_,_,h,λA' s w K l e ⟨C,ρ,d⟩ g=>?_⟩;obtain⟨_,v,i,a⟩:=d.op e (x:=x) (by rw[b];simp[av']) ha hl;have a:RV C (.raw (.iface t u)) v:=a;cases a;unfold aV;simp only[b];exact aW i<|g w (d.kill (Kp.refl [] w) λz j=>by cases j)
theorem Jk{f:Fn}{x:Operand}{a:AV}(b:o.op= .makeFunc f #[x] #[])(ha:ao A x=some a)(hl:Lv A a.refs)(h:yD n o k f a):cv w0 X C0 P τ n o A k:=by
 unfold yD at h;split at h
 ·rename_i g y d
  refine dc h λA' s w C ρ e j=>?_;obtain⟨_,v,m,p⟩:=j.op e (x:=x) (by rw[b];simp[av']) ha hl;refine⟨.func (.func g) #[v] #[],λ_=>.bd _ _ _ (Jh d p),λK u r=>?_⟩;unfold aV;simp only[b];exact aW m (oT (l:=[]) (vs:=[]) rfl (λi x t=>by simp at t) r)
 ·exact h.elim
theorem V1_snd{pn:List PanicEntry ->List Nat ->Prop}(D:aS P τ)(h:V1 P τ n o A k pn):pV w0 X C0 P τ n o A k pn:=by
 unfold V1 at h;split at h
 ·rename_i x l
  obtain⟨a,g,j,d⟩:=bM h;exact .inl (CE (.inl l) g j d)
 ·rename_i x l
  obtain⟨a,g,j,d⟩:=bM h;exact .inl (CE (.inr l) g j d)
 ·rename_i c x y l
  obtain⟨a,g,j,d⟩:=bM h;split at d
  ·rename_i t
   rcases br_cases d with ⟨e,N⟩|⟨e,N⟩
   ·subst e
    obtain⟨b,u,v,p⟩:=bM N;exact .inl (CF l g (by simpa using u) v p)
   ·subst e
    obtain⟨b,u,v,p⟩:=bM N;exact .inl (CF l g (by simpa using u) v p)
  ·exact d.elim
 ·rename_i T l
  exact .inl (IK l h)
 ·rename_i T x l
  obtain⟨a,g,j,d⟩:=bM h;exact .inl (IL l g j d)
 ·rename_i T ps l
  obtain⟨aes,g,j,d⟩:=sP' h;exact .inl (IM (IN A) l g d j)
 ·rename_i T len ps l
  obtain⟨aes,g,j,d⟩:=sP' h;exact .inl (IS l g d j)
 ·rename_i T x l
  obtain⟨a,g,j,d⟩:=bM h;exact .inl (Iz l g j d)
 ·rename_i T x y l
  obtain⟨a,g,j,d⟩:=bM h;obtain⟨b,u,v,p⟩:=bM d;exact .inl (Jf l g j u v p)
 ·rename_i U T x y q l
  obtain⟨a,g,j,d⟩:=bM h;obtain⟨b,u,v,p⟩:=bM d;exact .inl (IE l g j u v p)
 ·rename_i U T x l
  obtain⟨a,g,j,d⟩:=bM h;exact .inl (Ix l g j d)
 ·rename_i src V x l
  obtain⟨a,g,j,d⟩:=bM h;exact .inl (Iy l g j d)
 ·rename_i T x f l
  obtain⟨a,g,j,d⟩:=bM h;exact .inl (IB l g j d)
 ·rename_i T x f l
  obtain⟨a,g,j,d⟩:=bM h;exact .inl (IC l g j d)
 ·rename_i T x i l
  obtain⟨a,g,j,d⟩:=bM h;obtain⟨b,u,v,p⟩:=bM d;exact .inl (IA l g j u v p)
 ·rename_i x i l
  obtain⟨a,g,j,d⟩:=bM h;exact .inl (Iw l g j d)
 ·rename_i T x W S Y l
  split at h
  ·obtain⟨a,g,j,d⟩:=bM h
   cases W with
   |none=>
    cases S with
    |none=>exact .inl (ui (lo:=none) (hi:=none) (la:=none) (ha:=none) D l g j VQ VQ d)
    |some z=>
     obtain⟨c,F,H,I⟩:=bM (show rd A z _ from d);exact .inl (ui (lo:=none) (hi:=some z) (la:=none) (ha:=some c) D l g j VQ ⟨F,H⟩ I)
   |some y=>
    obtain⟨b,u,v,p⟩:=bM (show rd A y _ from d);cases S with
    |none=>exact .inl (ui (lo:=some y) (hi:=none) (la:=some b) (ha:=none) D l g j ⟨u,v⟩ VQ p)
    |some z=>
     obtain⟨c,F,H,I⟩:=bM (show rd A z _ from p);exact .inl (ui (lo:=some y) (hi:=some z) (la:=some b) (ha:=some c) D l g j ⟨u,v⟩ ⟨F,H⟩ I)
  ·exact h.elim
 ·rename_i T x y l
  obtain⟨a,g,j,d⟩:=bM h;obtain⟨b,u,v,p⟩:=bM d;exact .inl (IY D l g j u v p)
 ·rename_i x l
  obtain⟨a,g,j,d⟩:=bM h;split at d
  ·exact .inl (Iv l g j d)
  ·exact d.elim
 ·rename_i T x l
  obtain⟨a,g,j,d⟩:=bM h;exact .inl (Ji l g j d)
 ·rename_i f Z cs l
  split at h
  ·obtain⟨aes,g,j,d⟩:=mY' h
   exact .inl (I6 l g d j)
  ·split at h
   ·obtain⟨a,g,j,d⟩:=bM h
    exact .inl (Jk l g j d)
   ·exact h.elim
  ·exact h.elim
 ·rename_i T r l
  split at h
  ·exact .inl (I7 l h)
  ·exact h.elim
 ·rename_i T x i ok l
  obtain⟨a,g,j,d⟩:=bM h;obtain⟨b,u,v,p⟩:=bM d;exact .inl (I8 l g j u v p)
 ·rename_i T m i x l
  obtain⟨a,g,j,d⟩:=bM h;obtain⟨b,u,v,p⟩:=bM d;obtain⟨c,F,H,I⟩:=bM p;exact .inl (I9 l g j u v F H I)
 ·rename_i x l
  obtain⟨a,g,j,d⟩:=bM h;split at d
  ·exact Jj l g j d
  ·exact d.elim
 ·rename_i c l
  split at h
  ·rename_i f O
   split at h
   ·rename_i f'
    obtain⟨aes,g,j,d⟩:=mY' h;exact Ja l O g d j
   ·rename_i t
    obtain⟨a,u,v,p⟩:=bM h;split at p
    ·split at p
     ·rename_i Q
      obtain⟨aes,g,j,d⟩:=mY' p;exact Jb l O u v Q g d j
     ·exact p.elim
    ·obtain⟨aes,g,j,d⟩:=mY' p
     exact Jc l O u g d j
    ·exact p.elim
   ·exact h.elim
  ·rename_i b L
   split at h
   ·rename_i x T E M
    obtain⟨a,g,j,d⟩:=bM h;exact .inl (IG l L E M g j d)
   ·rename_i x y T T' E M
    split at h
    ·rename_i R
     obtain⟨a,g,j,d⟩:=bM h;obtain⟨b,u,v,p⟩:=bM d;exact .inl (IU D l L E (Array.ext' M) R g j u v p)
    ·obtain⟨a,g,j,d⟩:=bM h
     obtain⟨b,u,v,p⟩:=bM d;exact .inl (IV D l L E (Array.ext' M) g j u v p)
   ·rename_i x y E
    obtain⟨a,g,j,d⟩:=bM h;obtain⟨b,u,v,p⟩:=bM d;exact .inl (CN (mx:=true) l (by simpa using L) E g j u v p)
   ·rename_i x y E
    obtain⟨a,g,j,d⟩:=bM h;obtain⟨b,u,v,p⟩:=bM d;exact .inl (CN (mx:=false) l (by simpa using L) E g j u v p)
   ·exact h.elim
  ·exact h.elim
 ·exact h.elim
end
def tmpsOf:List Operand ->List Nat
 |[]=>[]
 | .tmp t::r=>t::tmpsOf r
 |_::r=>tmpsOf r
structure En where
 rs:List Nat
 rk:List Nat
 lk:List Nat
 wr:List (Nat×AV)
 wm:List (Nat×SE)
 F:List Nat
def yE(all:List Oper)(o:Oper):List Nat:=match o.guard with
 |none=>[]
 |some (j,_)=>match ly all j with
  |some d=>[d]
  |none=>[]
def lkOf(mv:Nat)(l:List Nat):List Nat:=match mv with
 |1=>l
 |_=>[]
def mkEn(all:List Oper)(o:Oper)(A:AS)(wr:List (Nat×AV))(wm:List (Nat×SE))(F:List Nat):En:=⟨yE all o++tmpsOf (av' o.op),rkOf A (iS' o.op) (refsOf A (av' o.op)),lkOf (iS' o.op) (refsOf A (av' o.op)),wr,wm,F⟩
def Al(A:AS)(k:Nat):Prop:=∃x,look A.m k=some x/\x.alive=true
def ux(k:Nat)(l:List (Nat×AV)):Bool:=List.rec (motive:=λ_=>Bool) true (λp _ ih=>match p.2.refs.elem k with
 |true=>false
 |false=>ih) l
def pY(k:Nat)(l:List (Nat×SE)):Bool:=List.rec (motive:=λ_=>Bool) true (λp _ ih=>match p.2.refs.elem k with
 |true=>false
 |false=>match Nat.beq p.1 k with
  |true=>match p.2.mut with
   |true=>false
   |false=>ih
  |false=>ih) l
def jZ(A:AS)(F:List Nat):Bool:=List.rec (motive:=λ_=>Bool) true (λk _ ih=>match ux k A.e with
 |true=>match pY k A.m with
  |true=>ih
  |false=>false
 |false=>false) F
def nT(A:AS)(F:List Nat)(k:Prop):Prop:=match jZ A F with
 |true=>k
 |false=>False
def VL(P:Program)(τ:Tau)(n:Nat)(all:List Oper)(K:List En ->AS ->Prop)(Q:List En ->List PanicEntry ->List Nat ->AS ->Prop)(l:List Oper):List En ->AS ->Prop:=
 List.rec (motive:=λ_=>List En ->AS ->Prop) (λes A=>K es A) (λo _ ih es A=>match o.guard with
  |none=>V1 P τ n o A (λwr wm F=>nT A F (ih (mkEn all o A wr wm F::es) (A.upd wr wm))) (λch ks=>Q (mkEn all o A [] [] []::es) ch ks A)
  |some (j,want)=>match ly all j with
   |none=>False
   |some d=>match look A.e d with
    |some (.c (.p (.bool c)))=>match want with
     |true=>Br c (V1 P τ n o A (λwr wm F=>nT A F (ih (mkEn all o A wr wm F::es) (A.upd wr wm))) (λch ks=>Q (mkEn all o A [] [] []::es) ch ks A)) (fin n o.dst (.c (.p (.raw undef))) λwr=>ih (mkEn all o A wr [] []::es) (A.upd wr []))
     |false=>Br c (fin n o.dst (.c (.p (.raw undef))) λwr=>ih (mkEn all o A wr [] []::es) (A.upd wr [])) (V1 P τ n o A (λwr wm F=>nT A F (ih (mkEn all o A wr wm F::es) (A.upd wr wm))) (λch ks=>Q (mkEn all o A [] [] []::es) ch ks A))
    |some (.c (.p (.raw (.tuple _))))=>fin n o.dst (.c (.p (.raw undef))) λwr=>ih (mkEn all o A wr [] []::es) (A.upd wr [])
    |_=>False) l
def mM(w0:World)(X:List Nat)(C0:Mem)(P:Program)(τ:Tau)(n:Nat)(all:List Oper)(o:Oper)(A:AS)(e:En):Prop:=
 ∀A' s w (K:St ->World ->Prop) (kp:List PanicEntry ->St ->World ->Prop),(∀t∈e.rs,look A'.e t=look A.e t) ->(∀k∈e.rk,look A'.m k=look A.m k) ->(∀k∈e.lk,Al A k ->Al A' k) ->(∀k∈e.F,NoRef k A') ->Rep w0 X C0 A' s w ->(∀s' w',Rep w0 X C0 (A'.upd e.wr e.wm) s' w' ->s'.d=s.d ->K s' w') ->gh P τ n all K kp [o] s w
def lE(w0:World)(X:List Nat)(C0:Mem)(P:Program)(τ:Tau)(n:Nat)(all:List Oper):List Oper ->AS ->List En ->AS ->Prop
 |[],A,[],B=>A=B
 |o::l,A,e::es,B=>(mM w0 X C0 P τ n all o A e/\jZ A e.F=true)/\lE w0 X C0 P τ n all l (A.upd e.wr e.wm) es B
 |_,_,_,_=>False
def rT(w0:World)(X:List Nat)(C0:Mem)(P:Program)(τ:Tau)(n:Nat)(all:List Oper)(o:Oper)(A:AS)(e:En)(ch:List PanicEntry)(ks:List Nat):Prop:=
 ∀A' s w (K:St ->World ->Prop) (kp:List PanicEntry ->St ->World ->Prop),(∀t∈e.rs,look A'.e t=look A.e t) ->(∀k∈e.rk,look A'.m k=look A.m k) ->(∀k∈e.lk,Al A k ->Al A' k) ->Rep w0 X C0 A' s w ->(∀s' w',Rep w0 X C0 (A'.upd [] (dk ks)) s' w' ->s'.d=s.d ->kp ch s' w') ->gh P τ n all K kp [o] s w
def o4(w0:World)(X:List Nat)(C0:Mem)(P:Program)(τ:Tau)(n:Nat)(all:List Oper):List Oper ->AS ->List En ->En ->List PanicEntry ->List Nat ->AS ->Prop
 |o::l,A,[],e,ch,ks,B=>rT w0 X C0 P τ n all o A e ch ks/\e.wr=[]/\e.wm=[]/\A=B
 |o::l,A,f::fs,e,ch,ks,B=>(mM w0 X C0 P τ n all o A f/\jZ A f.F=true)/\o4 w0 X C0 P τ n all l (A.upd f.wr f.wm) fs e ch ks B
 |[],_,_,_,_,_,_=>False
section
variable{w0:World}{X:List Nat}{C0:Mem}{P:Program}{τ:Tau}{n:Nat}{all:List Oper}{o:Oper}{A A':AS}{k:Kk}
theorem kT':∀{l:List Operand} {t:Nat},Operand.tmp t∈l ->t∈tmpsOf l
 |x::r,t,h=>by
  rcases List.mem_cons.1 h with h|h
  ·subst h
   simp[tmpsOf]
  ·have:=kT' h
   cases x<;>simp[tmpsOf,this]
theorem uy{mv:Nat}{l:List Operand}(h1:∀t∈tmpsOf l,look A'.e t=look A.e t)(h2:∀k∈rkOf A mv (refsOf A l),look A'.m k=look A.m k)(h3:∀k∈lkOf mv (refsOf A l),Al A k ->Al A' k):Agr mv A A' l:=by
 have h:Nat.beq mv 1=false ->∀k∈refsOf A l,look A'.m k=look A.m k:=λe k b=>by
  refine h2 k ?_;unfold rkOf;split
  ·cases e
  ·exact QW _ b
  ·exact b
 refine⟨λx d=>?_,λe x d a g k b=>h e k (nN d g k b),λe k b=>h2 k (by subst e;exact b),λx d a g i k b=>?_⟩
 ·cases x with
  |tmp t=>exact h1 t (kT' d)
  |_=>rfl
 ·by_cases e:mv=1
  ·subst e
   exact h3 k (nN d g k b) (i k b)
  ·rw[h (by
    cases j:Nat.beq mv 1 with
    |false=>rfl
    |true=>exact absurd (QJ j) e) k (nN d g k b)]
   exact i k b
theorem yF{e:En}{wr:List (Nat×AV)}{wm:List (Nat×SE)}{F:List Nat}(he:e=mkEn all o A wr wm F)(b:Tri w0 X C0 P τ n o A wr wm F)(A':AS)(s:St)(w:World)(K:St ->World ->Prop)(kp:List PanicEntry ->St ->World ->Prop)(h1:∀t∈e.rs,look A'.e t=look A.e t)(h2:∀k∈e.rk,look A'.m k=look A.m k)(a:∀k∈e.lk,Al A k ->Al A' k)(h3:∀k∈e.F,NoRef k A')(d:Rep w0 X C0 A' s w)(g:∀s' w',Rep w0 X C0 (A'.upd e.wr e.wm) s' w' ->s'.d=s.d ->K s' w'):aV P τ n o s w K kp:=by
 subst he;exact b A' s w K kp (uy (λt h=>h1 t (QV _ h)) h2 a) h3 d g
theorem yG{e:En}{wr:List (Nat×AV)}(a:∀(s:St) (v:Value) (Q:St ->Prop),(∀s',(∀t b,look wr t=some b ->get s'.e t=some v) ->(∀t,look wr t=none ->get s'.e t=get s.e t) ->s'.d=s.d ->Q s') ->put n s o.dst v Q)(i:∀t b,look wr t=some b ->b= .c (.p (.raw undef)))(he:e.wr=wr/\e.wm=[])(A':AS)(s:St)(w:World)(K:St ->World ->Prop)(d:Rep w0 X C0 A' s w)(g:∀s' w',Rep w0 X C0 (A'.upd e.wr e.wm) s' w' ->s'.d=s.d ->K s' w'):put n s o.dst undef λs'=>K s' w:=by
 rw[he.1,he.2]at g;obtain⟨C,ρ,d⟩:=d;refine a s undef _ λs' j l m=>g s' w ⟨C,ρ,d.slots (λt b h _=>⟨_,j t b h,?_⟩) l⟩ m;have:=i t b h;subst this;exact RV.raw _
theorem yH{s:St}{w:World}{d:Nat}{c:Bool}(b:Rep w0 X C0 A' s w)(j:look A'.e d=some (.c (.p (.bool c)))):get s.e d=some (.bool c)/\Rep w0 X C0 A' ⟨(d,.bool c)::s.e,s.d⟩ w:=by
 obtain⟨C,ρ,b⟩:=b;obtain⟨v,i,e⟩:=b.slot d _ j (λk l=>by cases l);have e:RV C (.bool c) v:=e;cases e;refine⟨i,C,ρ,⟨λt a m r=>?_,b.ent,b.sep,b.off,b.sub,b.c0,b.cn,b.kp⟩⟩;obtain⟨v,g,u⟩:=b.slot t a m r;refine⟨v,?_,u⟩;rw[eV];cases h:Nat.beq d t with
 |true=>
  obtain rfl:=QJ h;rw[i]at g
  simpa using g
 |false=>exact g
theorem VL_ok(U:aS P τ){K:List En ->AS ->Prop}{Q:List En ->List PanicEntry ->List Nat ->AS ->Prop}:∀{l:List Oper} {es:List En} {A:AS},VL P τ n all K Q l es A ->(∃fs B,lE w0 X C0 P τ n all l A fs B/\K (fs.reverse++es) B) \/∃fs e ch ks B,o4 w0 X C0 P τ n all l A fs e ch ks B/\Q (e::(fs.reverse++es)) ch ks B
 |[],es,A,h=>.inl ⟨[],A,rfl,h⟩
 |o::l,es,A,h=>by
  have goV:∀{g:Prop},(V1 P τ n o A (λwr wm F=>nT A F (VL P τ n all K Q l (mkEn all o A wr wm F::es) (A.upd wr wm))) (λch ks=>Q (mkEn all o A [] [] []::es) ch ks A)) ->(∀wr wm F,Tri w0 X C0 P τ n o A wr wm F ->mM w0 X C0 P τ n all o A (mkEn all o A wr wm F)) ->(∀ch ks,xZ w0 X C0 P τ n o A ch ks ->rT w0 X C0 P τ n all o A (mkEn all o A [] [] []) ch ks) ->(∃fs B,lE w0 X C0 P τ n all (o::l) A fs B/\K (fs.reverse++es) B) \/∃fs e ch ks B,o4 w0 X C0 P τ n all (o::l) A fs e ch ks B/\Q (e::(fs.reverse++es)) ch ks B:=λh z a1=>by
   rcases V1_snd (w0:=w0) (X:=X) (C0:=C0) U h with ⟨wr,wm,F,i,x⟩|⟨ch,ks,i,x⟩
   ·unfold nT at i
    split at i
    ·rename_i a0
     rcases VL_ok U i with ⟨fs,B,E,V⟩|⟨fs,e,ch,ks,B,E,V⟩
     ·exact .inl ⟨mkEn all o A wr wm F::fs,B,⟨⟨z _ _ _ x,a0⟩,E⟩,by simpa using V⟩
     ·exact .inr ⟨mkEn all o A wr wm F::fs,e,ch,ks,B,⟨⟨z _ _ _ x,a0⟩,E⟩,by simpa using V⟩
    ·exact i.elim
   ·exact .inr ⟨[],_,ch,ks,A,⟨a1 ch ks x,rfl,rfl,rfl⟩,i⟩
  have W:(fin n o.dst (.c (.p (.raw undef))) λwr=>VL P τ n all K Q l (mkEn all o A wr [] []::es) (A.upd wr [])) ->(∀wr,(∀t b,look wr t=some b ->b= .c (.p (.raw undef))) ->(∀(s:St) (v:Value) (Q:St ->Prop),(∀s',(∀t b,look wr t=some b ->get s'.e t=some v) ->(∀t,look wr t=none ->get s'.e t=get s.e t) ->s'.d=s.d ->Q s') ->put n s o.dst v Q) ->mM w0 X C0 P τ n all o A (mkEn all o A wr [] [])) ->(∃fs B,lE w0 X C0 P τ n all (o::l) A fs B/\K (fs.reverse++es) B) \/∃fs e ch ks B,o4 w0 X C0 P τ n all (o::l) A fs e ch ks B/\Q (e::(fs.reverse++es)) ch ks B:=λh z=>by
   obtain⟨wr,i,x,E⟩:=kA h;rcases VL_ok U i with ⟨fs,B,V,h5⟩|⟨fs,e,ch,ks,B,V,h5⟩
   ·exact .inl ⟨mkEn all o A wr [] []::fs,B,⟨⟨z wr x E,rfl⟩,V⟩,by simpa using h5⟩
   ·exact .inr ⟨mkEn all o A wr [] []::fs,e,ch,ks,B,⟨⟨z wr x E,rfl⟩,V⟩,by simpa using h5⟩
  have h:(match o.guard with
   |none=>V1 P τ n o A (λwr wm F=>nT A F (VL P τ n all K Q l (mkEn all o A wr wm F::es) (A.upd wr wm))) (λch ks=>Q (mkEn all o A [] [] []::es) ch ks A)
   |some (j,u)=>match ly all j with
    |none=>False
    |some d=>match look A.e d with
     |some (.c (.p (.bool c)))=>match u with
      |true=>Br c (V1 P τ n o A (λwr wm F=>nT A F (VL P τ n all K Q l (mkEn all o A wr wm F::es) (A.upd wr wm))) (λch ks=>Q (mkEn all o A [] [] []::es) ch ks A)) (fin n o.dst (.c (.p (.raw undef))) λwr=>VL P τ n all K Q l (mkEn all o A wr [] []::es) (A.upd wr []))
      |false=>Br c (fin n o.dst (.c (.p (.raw undef))) λwr=>VL P τ n all K Q l (mkEn all o A wr [] []::es) (A.upd wr [])) (V1 P τ n o A (λwr wm F=>nT A F (VL P τ n all K Q l (mkEn all o A wr wm F::es) (A.upd wr wm))) (λch ks=>Q (mkEn all o A [] [] []::es) ch ks A))
     |some (.c (.p (.raw (.tuple _))))=>fin n o.dst (.c (.p (.raw undef))) λwr=>VL P τ n all K Q l (mkEn all o A wr [] []::es) (A.upd wr [])
     |_=>False):=h
  split at h
  ·rename_i z
   refine goV (g:=True) h (λwr wm F y A' s w K I i x m E H D=>?_) (λch ks y A' s w K I i x m H D=>?_)
   ·rw[mz]
    simp only[z];exact yF rfl y A' s w _ I i x m E H D
   ·rw[mz]
    simp only[z];exact y A' s w _ I (uy (λt ht=>i t (QV _ ht)) x m) H λw' L=>D s w' L rfl
  ·rename_i j u z
   split at h
   ·exact h.elim
   ·rename_i d Z
    split at h
    ·rename_i c hc
     have M:∀wr wm F,d∈(mkEn all o A wr wm F).rs:=λwr wm F=>by simp[mkEn,yE,z,Z]
     have run:∀(a:Bool) {wr wm F},u=a ->c=a ->Tri w0 X C0 P τ n o A wr wm F ->mM w0 X C0 P τ n all o A (mkEn all o A wr wm F):=λa wr wm F e1 e2 y A' s w K I i x m E H D=>by
      subst e1;have r:=i d (M wr wm F);rw[hc]at r;obtain⟨q1,N⟩:=yH H r;rw[mz];simp only[z,Z,q1];obtain⟨e0,ds⟩:=s;subst e2;cases c with
      |true=>exact tQ rfl (yF rfl y A' _ w _ I i x m E N D)
      |false=>exact tR rfl (yF rfl y A' _ w _ I i x m E N D)
     have O:∀(a:Bool) {ch ks},u=a ->c=a ->xZ w0 X C0 P τ n o A ch ks ->rT w0 X C0 P τ n all o A (mkEn all o A [] [] []) ch ks:=λa ch ks e1 e2 y A' s w K I i x m H D=>by
      subst e1;have r:=i d (M [] [] []);rw[hc]at r;obtain⟨q1,N⟩:=yH H r;rw[mz];simp only[z,Z,q1];obtain⟨e0,ds⟩:=s;subst e2;cases c with
      |true=>exact tQ rfl (y A' _ w _ I (uy (λt ht=>i t (QV _ ht)) x m) N λw' L=>D _ w' L rfl)
      |false=>exact tR rfl (y A' _ w _ I (uy (λt ht=>i t (QV _ ht)) x m) N λw' L=>D _ w' L rfl)
     have skip:∀(a:Bool) {wr},u=a ->c= !a ->(∀t b,look wr t=some b ->b= .c (.p (.raw undef))) ->(∀(s:St) (v:Value) (Q:St ->Prop),(∀s',(∀t b,look wr t=some b ->get s'.e t=some v) ->(∀t,look wr t=none ->get s'.e t=get s.e t) ->s'.d=s.d ->Q s') ->put n s o.dst v Q) ->mM w0 X C0 P τ n all o A (mkEn all o A wr [] []):=λa wr e1 e2 R S A' s w K I i x m E H D=>by
      subst e1;have r:=i d (M wr [] []);rw[hc]at r;obtain⟨q1,N⟩:=yH H r;rw[mz];simp only[z,Z,q1];obtain⟨e0,ds⟩:=s;subst e2;cases u with
      |true=>exact tR rfl (yG S R ⟨rfl,rfl⟩ A' _ w K N D)
      |false=>exact tQ rfl (yG S R ⟨rfl,rfl⟩ A' _ w K N D)
     split at h
     ·rcases br_cases h with ⟨e,h⟩|⟨e,h⟩
      ·exact goV (g:=True) h (λwr wm F y=>run true rfl e y) λch ks y=>O true rfl e y
      ·exact W h λwr R S=>skip true rfl (by simpa using e) R S
     ·rcases br_cases h with ⟨e,h⟩|⟨e,h⟩
      ·exact W h λwr R S=>skip false rfl (by simpa using e) R S
      ·exact goV (g:=True) h (λwr wm F y=>run false rfl e y) λch ks y=>O false rfl e y
    ·rename_i vs hc
     refine W h λwr R S A' s w K I i x m E H D=>?_;have r:=i d (by simp[mkEn,yE,z,Z]);rw[hc]at r;rw[mz];simp only[z,Z];have Y:=H;obtain⟨C,ρ,Y⟩:=Y;obtain⟨v,hv,hr⟩:=Y.slot d _ r (λk hk=>by cases hk);have hr:RV C (.raw (.tuple vs)) v:=hr;cases hr;rw[hv];exact yG S R ⟨rfl,rfl⟩ A' s w K H D
    ·exact h.elim
theorem Do{k:Nat}:∀{l:List (Nat×AV)},ux k l=true ->∀p∈l,k ∉ p.2.refs
 |q::r,h,p,a=>by
  have h:(match q.2.refs.elem k with
   |true=>false
   |false=>ux k r)=true:=h
  split at h
  ·cases h
  ·rename_i b
   rcases List.mem_cons.1 a with rfl|a
   ·intro d
    rw[List.elem_eq_true_of_mem d]at b;cases b
   ·exact Do h p a
theorem Dq{k:Nat}:∀{l:List (Nat×SE)},pY k l=true ->∀p∈l,k ∉ p.2.refs/\(p.1=k ->p.2.mut=false)
 |q::r,h,p,a=>by
  have h:(match q.2.refs.elem k with
   |true=>false
   |false=>match Nat.beq q.1 k with
    |true=>match q.2.mut with
     |true=>false
     |false=>pY k r
    |false=>pY k r)=true:=h
  split at h
  ·cases h
  ·rename_i b
   have d:pY k r=true/\(q.1=k ->q.2.mut=false):=by
    split at h
    ·split at h
     ·cases h
     ·rename_i i
      exact⟨h,λ_=>i⟩
    ·rename_i g
     exact⟨h,λe=>by rw[e,Nat.beq_refl]at g;cases g⟩
   rcases List.mem_cons.1 a with rfl|a
   ·refine⟨λj=>?_,d.2⟩
    rw[List.elem_eq_true_of_mem j]at b;cases b
   ·exact Dq d.1 p a
theorem ti':∀{F:List Nat},jZ A F=true ->∀k∈F,(∀p∈A.e,k ∉ p.2.refs)/\∀p∈A.m,k ∉ p.2.refs/\(p.1=k ->p.2.mut=false)
 |j::r,h,k,a=>by
  have h:(match ux j A.e with
   |true=>match pY j A.m with
    |true=>jZ A r
    |false=>false
   |false=>false)=true:=h
  split at h
  ·rename_i b
   split at h
   ·rename_i d
    rcases List.mem_cons.1 a with rfl|a
    ·exact⟨Do b,Dq d⟩
    ·exact ti' h k a
   ·cases h
  ·cases h
theorem rU{F:List Nat}(h:jZ A F=true):∀k∈F,NoRef k A:=λk e=>by
 obtain⟨g,d⟩:=ti' h k e;exact⟨λt a i=>g _ (dj i),λj x b=>(d _ (dj b)).1,λx b=>(d _ (dj b)).2 rfl⟩
theorem Dr{K:St ->World ->Prop}{kp:List PanicEntry ->St ->World ->Prop}:∀{l:List Oper} {A:AS} {es:List En} {B:AS} {s:St} {w:World},lE w0 X C0 P τ n all l A es B ->Rep w0 X C0 A s w ->(∀s' w',Rep w0 X C0 B s' w' ->s'.d=s.d ->K s' w') ->gh P τ n all K kp l s w
 |[],A,[],B,s,w,h,b,d=>by
  obtain rfl:A=B:=h;exact d s w b rfl
 |o::l,A,e::es,B,s,w,h,b,d=>by
  obtain⟨⟨p,r⟩,t⟩:=h;have:=p A s w (λs' w'=>gh P τ n all K kp l s' w') kp (λ_ _=>rfl) (λ_ _=>rfl) (λ_ _ h=>h) (rU r) b λs' w' g u=>Dr t g λi j a m=>d i j a (m.trans u);exact this
 |[],_,_::_,_,_,_,h,_,_=>h.elim
 |_::_,_,[],_,_,_,h,_,_=>h.elim
theorem Ds{K:St ->World ->Prop}{kp:List PanicEntry ->St ->World ->Prop}{ch:List PanicEntry}{ks:List Nat}{B:AS}:∀{l:List Oper} {A:AS} {es:List En} {e:En} {s:St} {w:World},o4 w0 X C0 P τ n all l A es e ch ks B ->Rep w0 X C0 A s w ->(∀s' w',Rep w0 X C0 (B.upd [] (dk ks)) s' w' ->s'.d=s.d ->kp ch s' w') ->gh P τ n all K kp l s w
 |o::l,A,[],e,s,w,h,b,d=>by
  obtain⟨h,_,_,rfl⟩:=h;exact h A s w (λs' w'=>gh P τ n all K kp l s' w') kp (λ_ _=>rfl) (λ_ _=>rfl) (λ_ _ h=>h) b d
 |o::l,A,f::v,e,s,w,h,b,d=>by
  obtain⟨⟨p,r⟩,t⟩:=h;exact p A s w (λs' w'=>gh P τ n all K kp l s' w') kp (λ_ _=>rfl) (λ_ _=>rfl) (λ_ _ h=>h) (rU r) b λs' w' g u=>Ds t g λi j a m=>d i j a (m.trans u)
end
def endP(n:Nat)(K:Exit ->St ->World ->Prop)(d:List Deferred):Exit ->Act ->World ->Prop:=λe a w=>(e= .normal/\lift n K .normal a w) \/∃c,e= .panic c/\a.tmps.size=n/\a.defers=d/\K (.panic c) ⟨[],d⟩ w
theorem Dt{P:Program}{b:Array Oper}{Q:Exit ->Act ->World ->Prop}{i:Nat}{o:Oper}{k:Act ->World ->Prop}{a:Act}{w:World}(hi:b[i]?=some o)
  (h:wpList P b (λe l w'=>(e= .normal/\k l w') \/(∃c,e= .panic c/\Q (.panic c) l w')) [o] a w):wpOp P b Q i k a w:=by
 unfold wpOp;simp only[hi];unfold wpList at h;split at h
 ·rename_i m
  rw[KX m];rcases h with h|⟨_,l,w',h⟩
  ·left
   unfold Oper.wp at *
   generalize (execOp a.eval o).run P w=r at *
   cases r with
   |ok x w'=>
    cases x<;>simp only[Oper.upon,wpList]at h ⊢
    case value v=>rcases h with ⟨_,h⟩|⟨_,h,_⟩;exact h;cases h
    case skip=>rcases h with ⟨_,h⟩|⟨_,h,_⟩;exact h;cases h
    case defer d=>rcases h with ⟨_,h⟩|⟨_,h,_⟩;exact h;cases h
    case enter f j=>
     refine Calls.mono h λe p g=>?_;cases e with
     |returned u=>rcases g with ⟨_,h⟩|⟨_,h,_⟩;exact h;cases h
     |panicked c=>
      rcases g with ⟨h,_⟩|⟨y,h,t⟩
      ·cases h
      ·cases h
       exact t
     |outgrown=>
      obtain⟨_,_,g⟩:=g;rcases g with ⟨h,_⟩|⟨_,h,_⟩<;>cases h
    case row row j=>exact Rows.mono h λu p g=>by rcases g with ⟨_,h⟩|⟨_,h,_⟩;exact h;cases h
   |halt x w'=>
    cases x<;>simp only[Oper.upon]at h ⊢
    case panic v=>
     rcases h with ⟨h,_⟩|⟨y,h,t⟩
     ·cases h
     ·cases h
      exact t
  ·rcases h with ⟨h,_⟩|⟨_,h,_⟩<;>cases h
 ·rename_i m
  rw[KY m];simp only[wpList]at h;rcases h with ⟨_,h⟩|⟨_,h,_⟩
  ·exact h
  ·cases h
@[irreducible] def EvAnyP (P:Program) (n:Nat) (S:World ->Prop) (l:List Oper) (K:Exit ->St ->World ->Prop) (d:List Deferred) (fuel:Nat) (listed:Array Bool) (s:St) (w:World):Prop:=
 ClsV .any l.toArray listed ->∀a,Fr n a s ->xE P .any l.toArray (endP n K d) S fuel listed a w
def stD:List En ->(Nat ->Bool) ->Nat ->AS ->AS
 |[],_,_,A=>A
 |e::r,D,i,A=>stD r D (i+1) (match D i with
  |true=>A.upd e.wr e.wm
  |false=>A)
def gn{α:Type}(f:En ->List (Nat×α)):List En ->(Nat ->Bool) ->Nat ->Nat ->Option α ->Option α
 |[],_,_,_,d=>d
 |e::r,D,i,t,d=>gn f r D (i+1) t (match D i with
  |true=>match look (f e) t with
   |some x=>some x
   |none=>d
  |false=>d)
theorem oY':∀(es:List En) (D:Nat ->Bool) (i:Nat) (A:AS) (t:Nat),look (stD es D i A).e t=gn En.wr es D i t (look A.e t)
 |[],_,_,_,_=>rfl
 |e::r,D,i,A,t=>by
  simp only[stD,gn];rw[oY'];cases D i with
  |true=>
   simp only[AS.upd];rw[lA];cases look e.wr t<;>rfl
  |false=>rfl
theorem kF':∀(es:List En) (D:Nat ->Bool) (i:Nat) (A:AS) (t:Nat),look (stD es D i A).m t=gn En.wm es D i t (look A.m t)
 |[],_,_,_,_=>rfl
 |e::r,D,i,A,t=>by
  simp only[stD,gn];rw[kF'];cases D i with
  |true=>
   simp only[AS.upd];rw[lA];cases look e.wm t<;>rfl
  |false=>rfl
theorem rV{α:Type}{f:En ->List (Nat×α)}{D a:Nat ->Bool}{t:Nat}:∀(es:List En) (i:Nat) (d:Option α),(∀(j:Nat) e,es[j]?=some e ->look (f e) t≠none ->D (i+j)=a (i+j)) ->gn f es D i t d=gn f es a i t d
 |[],_,_,_=>rfl
 |e::r,i,d,h=>by
  simp only[gn];have g:(match D i with
   |true=>match look (f e) t with
    |some x=>some x
    |none=>d
   |false=>d)=(match a i with
   |true=>match look (f e) t with
    |some x=>some x
    |none=>d
   |false=>d):=by
   cases b:look (f e) t with
   |none=>cases D i<;>cases a i<;>rfl
   |some x=>
    have:=h 0 e rfl (by rw[b];simp);rw[Nat.add_zero]at this;rw[this]
  rw[g];exact rV r (i+1) _ λj l m b=>by
   have:=h (j+1) l m b
   rwa [show i+(j+1)=i+1+j by omega]at this
theorem Du{α:Type}{f:En ->List (Nat×α)}{D:Nat ->Bool}{t:Nat}:∀(es:List En) (i:Nat) (d:Option α),(∀(j:Nat) e,es[j]?=some e ->D (i+j)=true ->look (f e) t=none) ->gn f es D i t d=d
 |[],_,_,_=>rfl
 |e::r,i,d,h=>by
  simp only[gn];rw[Du r (i+1) _ λj a he b=>h (j+1) a he (by rwa [show i+(j+1)=i+1+j by omega])];cases b:D i with
  |true=>
   have:=h 0 e rfl (by rwa [Nat.add_zero]);simp only[this]
  |false=>rfl
theorem yI{α:Type}{f:En ->List (Nat×α)}{D:Nat ->Bool}{t:Nat}{x:α}:∀(es:List En) (i p:Nat) (d:Option α) (e:En),es[p]?=some e ->D (i+p)=true ->look (f e) t=some x ->(∀(j:Nat) e,p<j ->es[j]?=some e ->D (i+j)=true ->look (f e) t=none) ->gn f es D i t d=some x
 |a::r,i,0,d,e,he,b,g,h=>by
  obtain rfl:=JB he;simp only[gn];rw[Du r (i+1) _ λj a he b=>h (j+1) a Uo he (by rwa [show i+(j+1)=i+1+j by omega])];rw[Nat.add_zero]at b;simp only[b,g]
 |a::r,i,p+1,d,e,he,b,g,h=>by
  simp only[gn];exact yI r (i+1) p _ e he (by rwa [show i+1+p=i+(p+1) by omega]) g λj a l he b=>h (j+1) a Uo he (by rwa [show i+(j+1)=i+1+j by omega])
theorem valD_some{α:Type}{f:En ->List (Nat×α)}{D:Nat ->Bool}{t:Nat}{x:α}:∀(es:List En) (i:Nat) (d:Option α),gn f es D i t d=some x ->d=some x \/∃(j:Nat) (e:En),es[j]?=some e/\D (i+j)=true/\look (f e) t=some x
 |[],_,_,h=>.inl h
 |e::r,i,d,h=>by
  simp only[gn]at h;rcases valD_some r (i+1) _ h with h1|⟨j,b,h1,h2,h3⟩
  ·cases a:D i with
   |true=>
    rw[a]at h1;simp only at h1;cases hl:look (f e) t with
    |some y=>
     rw[hl]at h1;exact .inr ⟨0,e,rfl,by rwa [Nat.add_zero],by rw[hl];exact h1⟩
    |none=>rw[hl]at h1;exact .inl h1
   |false=>rw[a]at h1;exact .inl h1
  ·exact .inr ⟨j+1,b,h1,by rwa [show i+(j+1)=i+1+j by omega],h3⟩
theorem gN':∀(es:List En) (D:Nat ->Bool) (i:Nat) (A:AS),(∀j,i<=j ->D j=false) ->stD es D i A=A
 |[],_,_,_,_=>rfl
 |e::r,D,i,A,h=>by
  simp only[stD,h i (KJ i)];exact gN' r D (i+1) A λj a=>h j Uo
theorem lQ':∀(es:List En) (D:Nat ->Bool) (i:Nat) (A:AS) (p:Nat×AV),(p∈A.e \/∃(j:Nat) (e:En),es[j]?=some e/\D (i+j)=true/\p∈e.wr) ->p∈(stD es D i A).e
 |[],_,_,A,p,h=>by
  rcases h with h|⟨j,e,h,_⟩
  ·exact h
  ·simp at h
 |e::r,D,i,A,p,h=>by
  simp only[stD];refine lQ' r D (i+1) _ p ?_;rcases h with h|⟨j,a,h1,h2,h3⟩
  ·left
   cases D i with
   |true=>exact QV _ h
   |false=>exact h
  ·cases j with
   |zero=>
    obtain rfl:=JB h1;rw[Nat.add_zero]at h2;left;simp only[h2];exact QW _ h3
   |succ j=>exact .inr ⟨j,a,h1,by rwa [show i+1+j=i+(j+1) by omega],h3⟩
theorem gO':∀(es:List En) (D:Nat ->Bool) (i:Nat) (A:AS) (p:Nat×SE),(p∈A.m \/∃(j:Nat) (e:En),es[j]?=some e/\D (i+j)=true/\p∈e.wm) ->p∈(stD es D i A).m
 |[],_,_,A,p,h=>by
  rcases h with h|⟨j,e,h,_⟩
  ·exact h
  ·simp at h
 |e::r,D,i,A,p,h=>by
  simp only[stD];refine gO' r D (i+1) _ p ?_;rcases h with h|⟨j,a,h1,h2,h3⟩
  ·left
   cases D i with
   |true=>exact QV _ h
   |false=>exact h
  ·cases j with
   |zero=>
    obtain rfl:=JB h1;rw[Nat.add_zero]at h2;left;simp only[h2];exact QW _ h3
   |succ j=>exact .inr ⟨j,a,h1,by rwa [show i+1+j=i+(j+1) by omega],h3⟩
section
variable{w0:World}{X:List Nat}{C0:Mem}{P:Program}{τ:Tau}{n:Nat}{all:List Oper}{A B:AS}{s:St}{w:World}
theorem tk':∀(l:List Oper) (A B:AS) (es:List En),lE w0 X C0 P τ n all l A es B ->es.length=l.length:=by
 intro l
 induction l with
 |nil=>
  intro A B es h;cases es with
  |nil=>rfl
  |cons e es=>exact h.elim
 |cons o l a=>
  intro A B es h;cases es with
  |nil=>exact h.elim
  |cons e es=>simp[a _ _ _ h.2]
theorem yV':∀(l:List Oper) (A B:AS) (es:List En),lE w0 X C0 P τ n all l A es B ->∀(j i:Nat) o e,l[i]?=some o ->es[i]?=some e ->mM w0 X C0 P τ n all o (stD es (λq=>decide (q<j+i)) j A) e/\jZ (stD es (λq=>decide (q<j+i)) j A) e.F=true:=by
 intro l
 induction l with
 |nil=>intro A B es h j i o e a b;simp at a
 |cons o l d=>
  intro A B es h j i g m a b;cases es with
  |nil=>exact h.elim
  |cons e es=>
   cases i with
   |zero=>
    obtain rfl:=JB a;obtain rfl:=JB b;rw[gN' _ _ _ _ λq r=>Uk];exact h.1
   |succ i=>
    have:=d _ _ _ h.2 (j+1) i g m a b;rw[show j+1+i=j+(i+1) by omega]at this;have p:stD (e::es) (λq=>decide (q<j+(i+1))) j A=stD es (λq=>decide (q<j+(i+1))) (j+1) (A.upd e.wr e.wm):=by
     simp only[stD];rw[KU (show j<j+(i+1) by omega)]
    rw[p];exact this
theorem AG':∀(l:List Oper) (A B:AS) (es:List En),lE w0 X C0 P τ n all l A es B ->∀(j:Nat) (D:Nat ->Bool),(∀i,i<l.length ->D (j+i)=true) ->B=stD es D j A:=by
 intro l
 induction l with
 |nil=>
  intro A B es h j D _;cases es with
  |nil=>exact(h:A=B).symm
  |cons e es=>exact h.elim
 |cons o l d=>
  intro A B es h j D a;cases es with
  |nil=>exact h.elim
  |cons e es=>
   have:=d _ _ _ h.2 (j+1) D λi g=>by
    have:=a (i+1) (by simpa using g)
    rwa [show j+(i+1)=j+1+i by omega]at this
   simp only[stD];have b:=a 0 Ud;rw[Nat.add_zero]at b;rw[b];exact this
theorem Rep.weak(h:Rep w0 X C0 A s w)(he:∀t a,look B.e t=some a ->look A.e t=some a)(hm:∀k x,look B.m k=some x ->look A.m k=some x):Rep w0 X C0 B s w:=by
 obtain⟨C,ρ,h⟩:=h;have m:∀l,Lv B l ->Lv A l:=λl p k d=>by
  obtain⟨x,r,z⟩:=p k d;exact⟨x,hm k x r,z⟩
 refine⟨C,ρ,λt a M p=>h.slot t a (he t a M) (m _ p),λk x d=>?_,λj k x y g D N E d F=>h.sep j k x y g D (hm j x N) E (hm k y d) F,λk x g b o v d=>h.off k x g b o v (hm k x d),h.sub,h.c0,h.cn,h.kp⟩;have:=h.ent k x (hm k x d);cases x with
 |st O T cs=>
  obtain⟨b,R,r,z,S,U,H⟩:=this;exact⟨b,R,r,z,S,U,λi c u I L=>⟨(H i c u I L).1,λp=>(H i c u I L).2 (m _ p)⟩⟩
 |rw e V l=>exact this
 |fz l=>exact this
 |ob O Q=>exact this
 |dead=>exact VQ
theorem Rep.ext(h:Rep w0 X C0 A s w)(he:∀t,look B.e t=look A.e t)(hm:∀k,look B.m k=look A.m k):Rep w0 X C0 B s w:=h.weak (λt a b=>(he t).symm.trans b) λk x d=>(hm k).symm.trans d
def pZ{α:Type}(ks:List Nat)(l:List (Nat×α)):List (Nat×α):=List.rec (motive:=λ_=>List (Nat×α)) [] (λp _ ih=>match fj p.1 ks with
 |true=>ih
 |false=>p::ih) l
theorem Dv{α:Type}{ks:List Nat}{l:List (Nat×α)}{t:Nat}{x:α}(h:look (pZ ks l) t=some x):look l t=some x/\t ∉ ks:=by
 induction l with
 |nil=>cases h
 |cons p r d=>
  obtain⟨q,y⟩:=p;have h:look (match fj q ks with
   |true=>pZ ks r
   |false=>(q,y)::pZ ks r) t=some x:=h
  rw[cI];cases a:fj q ks with
  |true=>
   rw[a]at h;obtain⟨g,e⟩:=d h;cases b:Nat.beq q t with
   |true=>
    obtain rfl:=QJ b;exact absurd (rF a) e
   |false=>exact⟨g,e⟩
  |false=>
   rw[a]at h;have h:look ((q,y)::pZ ks r) t=some x:=h;rw[cI]at h;cases b:Nat.beq q t with
   |true=>
    rw[b]at h;obtain rfl:=QJ b;exact⟨h,λi=>by rw[nQ i]at a;cases a⟩
   |false=>
    rw[b]at h;exact d h
def rW{α:Type}(f:En ->List (Nat×α))(es:List En):List Nat:=List.rec (motive:=λ_=>List Nat) [] (λe _ ih=>keysOf (f e)++ih) es
theorem Jl{α:Type}{f:En ->List (Nat×α)}{es:List En}{e:En}(he:e∈es){t:Nat}(a:look (f e) t≠none):t∈rW f es:=by
 induction es with
 |nil=>cases he
 |cons g r b=>
  show t∈keysOf (f g)++rW f r;rcases List.mem_cons.1 he with rfl|he
  ·exact QW _ (iN a)
  ·exact QV _ (b he)
def rX(es:List En)(ks:List Nat)(A:AS):AS:=⟨pZ (rW En.wr es) A.e,pZ (ks++rW En.wm es) A.m⟩
theorem Jm{es fs:List En}{ks:List Nat}{D:Nat ->Bool}{A:AS}(h:Rep w0 X C0 ((stD es D 0 A).upd [] (dk ks)) s w)(v:∀e∈es,e∈fs):Rep w0 X C0 (rX fs ks A) s w:=by
 have b:∀{α:Type} (f:En ->List (Nat×α)) (t:Nat) (d:Option α),t ∉ rW f fs ->∀(l:List En) (i:Nat),(∀e∈l,e∈fs) ->gn f l D i t d=d:=λf t d p l=>by
  induction l with
  |nil=>intro i _;rfl
  |cons e r E=>
   intro i z;have F:look (f e) t=none:=Classical.byContradiction λH=>p (Jl (z e Ud) H);simp only[gn,F];rw[show (match D i with
    |true=>d
    |false=>d)=d by cases D i<;>rfl]
   exact E (i+1) λe I=>z e (by simp[I])
 refine h.weak (λt a p=>?_) λk x L=>?_
 ·obtain⟨u,g⟩:=Dv p
  show look (stD es D 0 A).e t=_;rw[oY',b _ _ _ g es 0 v];exact u
 ·obtain⟨u,g⟩:=Dv L
  rw[JW,not_or]at g;show look (dk ks++(stD es D 0 A).m) k=_;rw[rx,kF',b _ _ _ g.2 es 0 v]
  ·exact u
  ·cases M:look (dk ks) k with
   |none=>rfl
   |some y=>
    refine absurd ?_ g.1;obtain⟨j,N,e⟩:=List.mem_map.1 (dj M);injection e with e
    exact e▸N
def p8(n:Nat)(K:Exit ->St ->World ->Prop):Exit ->Act ->World ->Prop:=λe a w=>(e= .normal \/∃c,e= .panic c)/\lift n K e a w
end
def mN(a b:List Nat):Bool:=match a with
 |[]=>false
 |x::r=>match fj x b with
  |true=>true
  |false=>mN r b
theorem mO{a b:List Nat}{k:Nat}(ha:k∈a)(hb:k∈b):mN a b=true:=by
 induction a with
 |nil=>cases ha
 |cons x r e=>
  simp only[mN];cases d:fj x b with
  |true=>rfl
  |false=>
   rcases List.mem_cons.1 ha with rfl|ha
   ·rw[nQ hb]at d
    cases d
   ·exact e ha
def uz(l:List (Nat×AV)):List Nat:=List.rec (motive:=λ_=>List Nat) [] (λp _ ih=>p.2.refs++ih) l
theorem Jn{l:List (Nat×AV)}{p:Nat×AV}(h:p∈l){k:Nat}(a:k∈p.2.refs):k∈uz l:=by
 induction l with
 |nil=>cases h
 |cons q r b=>
  show k∈q.2.refs++uz r;rcases List.mem_cons.1 h with rfl|h
  ·exact QW _ a
  ·exact QV _ (b h)
def uA(l:List (Nat×SE)):List Nat:=List.rec (motive:=λ_=>List Nat) [] (λp _ ih=>match p.2.alive with
 |true=>ih
 |false=>p.1::ih) l
theorem Jo{l:List (Nat×SE)}{k:Nat}{x:SE}(h:look l k=some x)(b:x.alive=false):k∈uA l:=by
 induction l with
 |nil=>cases h
 |cons p r d=>
  obtain⟨q,y⟩:=p;show k∈(match y.alive with
   |true=>uA r
   |false=>q::uA r)
  rw[cI]at h;cases a:Nat.beq q k with
  |true=>
   rw[a]at h;obtain rfl:=JB h;rw[b];simp[QJ a]
  |false=>
   rw[a]at h;have:=d h;cases y.alive<;>simp[this]
def jE(a b:En):Bool:=mN (keysOf a.wr) (b.rs++keysOf b.wr)||(mN a.rs (keysOf b.wr)||(mN (keysOf a.wm) (b.rk++(b.lk++keysOf b.wm))||(mN a.rk (keysOf b.wm)||(mN a.lk (uA b.wm)||mN a.F (uz b.wr++(kD b.wm++keysOf b.wm))))))
def eg(an:List Nat)(l:List Edge):Nat:=List.rec (motive:=λ_=>Nat) 0 (λe _ ih=>match Region.binds .any e with
 |true=>Nat.lor (Nat.lor (2^e.on) (an.getD e.on 0)) ih
 |false=>ih) l
def mP(k:Nat)(l:List Edge):Bool:=List.rec (motive:=λ_=>Bool) true (λe _ ih=>match Region.binds .any e with
 |true=>match Nat.ble (e.on+1) k with
  |true=>ih
  |false=>false
 |false=>ih) l
def p9(l:List En):Nat ->Nat ->En ->Bool:=List.rec (motive:=λ_=>Nat ->Nat ->En ->Bool) (λ_ _ _=>true) (λa _ ih j anc b=>match jE a b with
 |true=>match Nat.testBit anc j with
  |true=>ih (j+1) anc b
  |false=>false
 |false=>ih (j+1) anc b) l
def j3(l:List Oper):List En ->List Nat ->List En ->Bool:=List.rec (motive:=λ_=>List En ->List Nat ->List En ->Bool) (λ_ _ _=>true) (λo _ ih es an prev=>match es with
 |[]=>match mP an.length o.after.toList,Nat.testBit (eg an o.after.toList) (prev.length-1)with
  |true,true=>ih [] (an++[eg an o.after.toList]) prev
  |_,_=>false
 |e::es=>match mP an.length o.after.toList,p9 prev 0 (eg an o.after.toList) e with
  |true,true=>ih es (an++[eg an o.after.toList]) (prev++[e])
  |_,_=>false) l
theorem rY{k:Nat}:∀{l:List Edge},mP k l=true ->∀e∈l,Region.binds .any e=true ->e.on<k
 |q::r,h,e,he,hb=>by
  have h:(match Region.binds .any q with
   |true=>match Nat.ble (q.on+1) k with
    |true=>mP k r
    |false=>false
   |false=>mP k r)=true:=h
  split at h
  ·split at h
   ·rename_i a
    have a:=QX a;rcases List.mem_cons.1 he with rfl|he
    ·omega
    ·exact rY h e he hb
   ·cases h
  ·rename_i b
   rcases List.mem_cons.1 he with rfl|he
   ·rw[hb]at b;cases b
   ·exact rY h e he hb
theorem Dw{d:Nat}{b:En}:∀{l:List En} {j:Nat},p9 l j d b=true ->∀(i:Nat) a,l[i]?=some a ->jE a b=true ->d.testBit (j+i)=true
 |q::r,j,h,i,a,ha,hc=>by
  have h:(match jE q b with
   |true=>match Nat.testBit d j with
    |true=>p9 r (j+1) d b
    |false=>false
   |false=>p9 r (j+1) d b)=true:=h
  have g:p9 r (j+1) d b=true/\(jE q b=true ->d.testBit j=true):=by
   split at h
   ·split at h
    ·rename_i m
     exact⟨h,λ_=>m⟩
    ·cases h
   ·rename_i p
    exact⟨h,λe=>by rw[p]at e;cases e⟩
  cases i with
  |zero=>
   obtain rfl:=JB ha;exact g.2 hc
  |succ i=>
   have:=Dw g.1 i a ha hc
   rwa [show j+1+i=j+(i+1) by omega]at this
theorem yJ{a:List Nat}:∀{l:List Edge} {j:Nat},(eg a l).testBit j=true ->∃e∈l,Region.binds .any e=true/\(j=e.on \/(a.getD e.on 0).testBit j=true)
 |[],j,h=>by
  have h:Nat.testBit 0 j=true:=h;simp at h
 |q::r,j,h=>by
  have h:(match Region.binds .any q with
   |true=>Nat.lor (Nat.lor (2^q.on) (a.getD q.on 0)) (eg a r)
   |false=>eg a r).testBit j=true:=h
  split at h
  ·rename_i g
   have h:(((2^q.on)|||(a.getD q.on 0))|||eg a r).testBit j=true:=h;rw[Nat.testBit_or,Nat.testBit_or,Bool.or_eq_true,Bool.or_eq_true,Nat.testBit_two_pow]at h;rcases h with (h|h)|h
   ·exact⟨q,Ud,g,.inl (of_decide_eq_true h).symm⟩
   ·exact⟨q,Ud,g,.inr h⟩
   ·obtain⟨e,b,d⟩:=yJ h
    exact⟨e,by simp[b],d⟩
  ·obtain⟨e,b,d⟩:=yJ h
   exact⟨e,by simp[b],d⟩
def j4(l:List Oper):List Nat ->List Nat:=List.rec (motive:=λ_=>List Nat ->List Nat) (λan=>an) (λo _ ih an=>ih (an++[eg an o.after.toList])) l
abbrev nopO(o:Oper):Oper:={o with dst:=none,op:=.assign (.const (.bool true)),guard:=none}
def kH(z:Nat)(l:List Oper):List Nat ->List Oper:=List.rec (motive:=λ_=>List Nat ->List Oper) (λ_=>[]) (λo _ ih an=>(match Nat.testBit (eg an o.after.toList) z with
 |true=>nopO o
 |false=>o)::ih (an++[eg an o.after.toList])) l
theorem lT':∀(l:List Oper) (a:List Nat) (i:Nat),i<a.length ->(j4 l a)[i]?=a[i]?
 |[],a,i,h=>rfl
 |o::l,a,i,h=>by
  show (j4 l (a++[eg a o.after.toList]))[i]?=_;rw[lT' l _ i Uk,QH h]
theorem yK(z:Nat):∀(l:List Oper) (a:List Nat),(kH z l a).length=l.length
 |[],_=>rfl
 |o::l,a=>by
  show (_::kH z l (a++[eg a o.after.toList])).length=_;rw[JV,yK z l,JV]
theorem Jp(o:Oper)(l:List Oper)(a:List Nat):j4 (o::l) a=j4 l (a++[eg a o.after.toList]):=rfl
theorem Jq(z:Nat)(o:Oper)(l:List Oper)(a:List Nat):kH z (o::l) a=(match Nat.testBit (eg a o.after.toList) z with
 |true=>nopO o
 |false=>o)::kH z l (a++[eg a o.after.toList]):=rfl
theorem Jr(z:Nat):∀(l:List Oper) (b:List Nat) (i:Nat) (o:Oper) (a:Nat),l[i]?=some o ->(j4 l b)[b.length+i]?=some a ->a.testBit z=false ->(kH z l b)[i]?=some o:=by
 intro l
 induction l with
 |nil=>intro b i o a d _ _;simp at d
 |cons o l h=>
  intro b i j a d e g;rw[Jp]at e;rw[Jq];cases i with
  |zero=>
   rw[List.getElem?_cons_zero]at d ⊢;rw[lT' l _ _ Ud,Nat.add_zero,QU (KJ _),Nat.sub_self,List.getElem?_cons_zero]at e;rw[JB e,g];exact d
  |succ i=>
   rw[List.getElem?_cons_succ]at d ⊢;exact h _ i j a d (by rw[JK,List.length_singleton,show b.length+1+i=b.length+(i+1) by omega];exact e) g
def rZ(all:List Oper)(i:Nat)(anc:Nat):Prop:=∀listed:Array Bool,ClsV .any all.toArray listed ->(∀o,all[i]?=some o ->∀e∈o.after,Region.binds .any e=true ->listed.getD e.on false=true) ->∀j,anc.testBit j=true ->listed.getD j false=true
theorem Js{all:List Oper}{tot:List En}:∀(l:List Oper) (d:List Nat) (k:Nat),j3 l (tot.drop k) d (tot.take k)=true ->d.length=k ->(∀i:Nat,all[k+i]?=l[i]?) ->(∀(i:Nat) b,d[i]?=some b ->rZ all i b) ->j4 l d=j4 all [] ->
  ∀(i:Nat) o,k<=i ->all[i]?=some o ->∃b,(∀g∈o.after,Region.binds .any g=true ->g.on<i)/\(∀e,tot[i]?=some e ->∀(j:Nat) a,j<i ->tot[j]?=some a ->jE a e=true ->b.testBit j=true)/\rZ all i b/\(tot.length<=i ->b.testBit (tot.length-1)=true)/\(j4 all [])[i]?=some b:=by
 intro l
 induction l with
 |nil=>
  intro d k _ _ N _ _ i o Q y;have:=N (i-k);rw[show k+(i-k)=i by omega,y]at this;simp at this
 |cons o l ih=>
  intro d k h R N h6 O i o' Q y;have D:(j4 all [])[k]?=some (eg d o.after.toList):=by
   rw[<- O];show (j4 l (d++[eg d o.after.toList]))[k]?=_;rw[lT' l _ _ Uk,QU Uo,R,Nat.sub_self]
   rfl
  have v:=N 0;rw[Nat.add_zero]at v;have m:mP d.length o.after.toList=true ->rZ all k (eg d o.after.toList):=λr x E t j S=>by
   obtain⟨g,q1,q2,U⟩:=yJ S;have V:=t o v g (by simpa using q1) q2;rcases U with rfl|U
   ·exact V
   ·have p:=rY r g q1 q2
    have hg:d[g.on]?=some (d.getD g.on 0):=by
     rw[QK,List.getElem?_eq_getElem p]
     rfl
    exact h6 _ _ hg x E (λo2 W Y F Z=>E g.on o2 (by simpa using W) V Y F Z) j U
  have next:j3 l (tot.drop (k+1)) (d++[eg d o.after.toList]) (tot.take (k+1))=true ->mP d.length o.after.toList=true ->k+1<=i ->∃b,(∀g∈o'.after,Region.binds .any g=true ->g.on<i)/\(∀e,tot[i]?=some e ->∀(j:Nat) a,j<i ->tot[j]?=some a ->jE a e=true ->b.testBit j=true)/\rZ all i b/\(tot.length<=i ->b.testBit (tot.length-1)=true)/\(j4 all [])[i]?=some b:=λh r p=>by
   refine ih _ (k+1) h (by simp[R]) (λi=>?_) (λi b H=>?_) O i o' p y
   ·have:=N (i+1)
    rwa [show k+(i+1)=k+1+i by omega]at this
   ·rcases Nat.lt_or_ge i k with O|O
    ·rw[QH Uo]at H
     exact h6 i b H
    ·have a0:=aM H
     simp at a0;obtain rfl:i=k:=Uo
     rw[QU Uo,R,Nat.sub_self]at H;obtain rfl:=JB H;exact m r
  cases u:tot.drop k with
  |nil=>
   have I:tot.length<=k:=by simpa using u
   have a1:tot.take k=tot:=JG I;rw[u,a1]at h;have h:(match mP d.length o.after.toList,Nat.testBit (eg d o.after.toList) (tot.length-1)with
    |true,true=>j3 l [] (d++[eg d o.after.toList]) tot
    |_,_=>false)=true:=h
   split at h
   ·rename_i r g2
    rcases Nat.eq_or_lt_of_le Q with rfl|p
    ·rw[v]at y
     obtain rfl:=JB y;exact⟨_,λg t hb=>by have:=rY r g (by simpa using t) hb;omega,λe he=>by have:=aM he;omega,m r,λ_=>g2,D⟩
    ·refine next ?_ r p
     rw[JY Uo,JG Uo];exact h
   ·cases h
  |cons e es=>
   have z:tot[k]?=some e:=by
    have:=KG (·[0]?) u
    simpa using this
   have L:tot.drop (k+1)=es:=by
    have:=KG (List.drop 1) u;rw[List.drop_drop]at this
    simpa using this
   rw[u]at h;have h:(match mP d.length o.after.toList,p9 (tot.take k) 0 (eg d o.after.toList) e with
    |true,true=>j3 l es (d++[eg d o.after.toList]) (tot.take k++[e])
    |_,_=>false)=true:=h
   split at h
   ·rename_i r g2
    rcases Nat.eq_or_lt_of_le Q with rfl|p
    ·rw[v]at y
     obtain rfl:=JB y;refine⟨_,λg t hb=>by have:=rY r g (by simpa using t) hb;omega,λe' M j a S ha hc=>?_,m r,λV=>by have:=aM z;omega,D⟩;rw[z]at M;obtain rfl:=JB M;have:=Dw g2 j a (by rw[List.getElem?_take,KX S];exact ha) hc
     rwa [KW]at this
    ·refine next ?_ r p
     rw[L,QQ,z];exact h
   ·cases h
section
variable{w0:World}{X:List Nat}{C0:Mem}{P:Program}{τ:Tau}{n:Nat}{all:List Oper}{A B:AS}{s:St}{w:World}
theorem Dx{t:Nat}{D g:Nat ->Bool}:∀(es:List En) (i:Nat) (d l:Option SE),((∃x,l=some x/\x.alive=true) ->∃x,d=some x/\x.alive=true) ->(∀(j:Nat) e x,es[j]?=some e ->look e.wm t=some x ->(g (i+j)=true ->D (i+j)=true)/\(D (i+j)=true ->g (i+j)=false ->x.alive=true)) ->(∃x,gn En.wm es g i t l=some x/\x.alive=true) ->∃x,gn En.wm es D i t d=some x/\x.alive=true
 |[],_,_,_,h,_,m=>h m
 |e::r,i,d,l,h,p,m=>by
  refine Dx r (i+1) _ _ (λb=>?_) (λj f x y z=>by have:=p (j+1) f x y z;rwa [show i+1+j=i+(j+1) by omega]) m;cases hl:look e.wm t with
  |none=>
   rw[hl]at b;have E:(match g i with
    |true=>l
    |false=>l)=l:=by cases g i<;>rfl
   have F:(match D i with
    |true=>d
    |false=>d)=d:=by cases D i<;>rfl
   simp only[E]at b;simp only[F];exact h b
  |some x=>
   rw[hl]at b;obtain⟨u,v⟩:=p 0 e x rfl hl;rw[Nat.add_zero]at u v;cases a:g i with
   |true=>
    rw[a]at b;rw[u a];exact b
   |false=>
    rw[a]at b;cases H:D i with
    |true=>exact⟨x,rfl,v H a⟩
    |false=>exact h b
theorem Dy(b7:aS P τ){es:List En}{id:Nat}{K:Exit ->St ->World ->Prop}(z:Nat)(g':es.length=all.length)(f':z<=all.length)
  (g0:∀(i:Nat) o e,i≠z ->all[i]?=some o ->es[i]?=some e ->(z<all.length ->∃H,(j4 all [])[i]?=some H/\H.testBit z=false) ->mM w0 X C0 P τ n all o (stD es (λq=>decide (q<i)) 0 A) e/\jZ (stD es (λq=>decide (q<i)) 0 A) e.F=true)
  (c6:z=all.length ->∀(D:Nat ->Bool),(∀i,i<all.length ->D i=true) ->B=stD es D 0 A)
  (g1:∀o e,all[z]?=some o ->es[z]?=some e ->∃ch ks,rT w0 X C0 P τ n all o (stD es (λq=>decide (q<z)) 0 A) e ch ks/\∀(D:Nat ->Bool) s' w',Rep w0 X C0 ((stD es D 0 A).upd [] (dk ks)) s' w' ->s'.d=s.d ->K (.panic ch) s' w')
  (c7:j3 all es [] []=true) (hR:Rep w0 X C0 A s w) (hK:z=all.length ->∀s' w',Rep w0 X C0 B s' w' ->s'.d=s.d ->K .normal s' w'):EvCode P n (.region id all.toArray true) s w K:=by
 have U:=Js (all:=all) (tot:=es) all [] 0 (by simpa using c7) rfl (λi=>by rw[KW]) (λi H hi=>by simp at hi) rfl;have b8:∀(i:Nat) o e,0<=i ->all[i]?=some o ->es[i]?=some e ->∃H,(∀ed∈o.after,Region.binds .any ed=true ->ed.on<i)/\(∀(j:Nat) a,j<i ->es[j]?=some a ->jE a e=true ->H.testBit j=true)/\rZ all i H:=λi o e h0 ho p=>by
  obtain⟨H,M,h2,h3,_⟩:=U i o h0 ho;exact⟨H,M,h2 e p,h3⟩
 have c8:∀(d:Array Bool),ClsV .any all.toArray d ->∀(i j:Nat) a b,i<j ->es[i]?=some a ->es[j]?=some b ->jE a b=true ->(d.getD j false=true \/∀o,all[j]?=some o ->∀ed∈o.after,Region.binds .any ed=true ->d.getD ed.on false=true) ->d.getD i false=true:=λd N i j a b g2 ha hb hc u=>by
  have v:=aM hb;have g3:all[j]?=some all[j]:=gE;obtain⟨H,_,h2,h3⟩:=b8 j _ b (KV _) g3 hb;refine h3 d N (λo ho ed b1 c9=>?_) i (h2 i a g2 ha hc);rcases u with u|u
  ·exact N j o (by simpa using ho) u ed b1 c9
  ·exact u o ho ed b1 c9
 have c':∀(O:Nat) (d:Array Bool) (a:Act) (w:World),d.size=all.length ->ClsV .any all.toArray d ->(List.range all.length).countP (λi=>!d.getD i false)<=O ->((∃s',Fr n a s'/\s'.d=s.d/\Rep w0 X C0 (stD es (λq=>d.getD q false) 0 A) s' w)/\d.getD z false=false) ->wpAny P .any all.toArray (p8 n K) O d a w:=by
  have b4:∀(d:Array Bool) (a:Act) (w:World),d.size=all.length ->ClsV .any all.toArray d ->Region.ready .any all.toArray d=[] ->((∃s',Fr n a s'/\s'.d=s.d/\Rep w0 X C0 (stD es (λq=>d.getD q false) 0 A) s' w)/\d.getD z false=false) ->p8 n K .normal a w:=λd a w a9 N hr ⟨⟨s',hF,hd,Z⟩,V⟩=>by
   have b5:∀i,i<all.length ->d.getD i false=true:=by
    intro i
    induction i using Nat.strongRecOn with
    |_ i ih=>
     intro hi;cases W:d.getD i false with
     |true=>rfl
     |false=>
      exfalso;have a3:all[i]?=some all[i]:=List.getElem?_eq_getElem hi;obtain⟨H,M,_,_,_⟩:=U i _ (KV _) a3;have b6:i∈Region.ready .any all.toArray d:=mem_ready.2 ⟨by
       have a8:i<d.size:=Uo
       simp[a8]at W ⊢;exact W,all[i],Ud,λe p hb=>ih e.on (M e p hb) (by have:=M e p hb;omega)⟩
      rw[hr]at b6;cases b6
   have d':z=all.length:=by
    rcases Nat.eq_or_lt_of_le f' with h|h
    ·exact h
    ·have h2:=b5 z h
     rw[V]at h2;cases h2
   rw[<- c6 d' (λq=>d.getD q false) b5]at Z;exact⟨.inl rfl,s',hF,hK d' s' w Z hd⟩
  intro O
  induction O with
  |zero=>
   intro d a w a9 N e0 hG;have hr:Region.ready .any all.toArray d=[]:=by
    rw[List.eq_nil_iff_forall_not_mem];intro i hi;obtain⟨M,o,ho,_⟩:=mem_ready.1 hi;have b9:i<all.length:=by
     have:=(Array.getElem?_eq_some_iff.1 ho).1
     simpa using this
    have h0:(List.range all.length).countP (λi=>!d.getD i false)=0:=Uo
    rw[List.countP_eq_zero]at h0;have:=h0 i (List.mem_range.2 b9);have a8:i<d.size:=Uo
    simp[a8]at M this;rw[M]at this;cases this
   exact⟨hr,b4 d a w a9 N hr hG⟩
  |succ O ih=>
   intro d a w a9 N e0 hG;refine⟨λhr=>b4 d a w a9 N hr hG,λi hi=>?_⟩;obtain⟨⟨s',hF,hd,Z⟩,V⟩:=hG;obtain⟨M,o,ho,b1⟩:=mem_ready.1 hi;have a3:all[i]?=some o:=by simpa using ho
   have b9:=aM a3;have a8:i<d.size:=Uo
   have W:d.getD i false=false:=by
    simp[a8]at M ⊢;exact M
   have e2:i<es.length:=Uo
   have a0:es[i]?=some es[i]:=List.getElem?_eq_getElem e2;have a6:∀o2,all[i]?=some o2 ->∀ed∈o2.after,Region.binds .any ed=true ->d.getD ed.on false=true:=λo2 b2=>by
    rw[a3]at b2;obtain rfl:=JB b2;exact b1
   have R:∀(j:Nat) b,j<i ->es[j]?=some b ->jE b es[i]=true ->d.getD j false=true:=λj b v hb hc=>c8 d N j i b _ v hb a0 hc (.inr a6);have I:∀(j:Nat) b,i<j ->es[j]?=some b ->jE es[i] b=true ->d.getD j false=false:=λj b v hb hc=>by
    cases u:d.getD j false with
    |false=>rfl
    |true=>
     have:=c8 d N i j _ b v a0 hb hc (.inl u);rw[W]at this;cases this
   have a1:∀{a b:Bool},a=true ->(a||b)=true:=λ{a b} h=>by rw[h];rfl
   have g:∀{a b:Bool},b=true ->(a||b)=true:=λ{a b} h=>by rw[h];cases a<;>rfl
   have e3:∀t∈(es[i]).rs,look (stD es (λq=>d.getD q false) 0 A).e t=look (stD es (λq=>decide (q<i)) 0 A).e t:=λt ht=>by
    rw[oY',oY'];refine rV es 0 _ λj e p u=>?_;rw[KW];have hk:=iN u;rcases Nat.lt_trichotomy j i with v|rfl|v
    ·rw[R j e v p (a1 (mO hk (QW _ ht))),KU v]
    ·rw[W,KH (Nat.lt_irrefl _)]
    ·rw[I j e v p (g (a1 (mO ht hk))),KH Uo]
   have e4:∀t∈(es[i]).rk,look (stD es (λq=>d.getD q false) 0 A).m t=look (stD es (λq=>decide (q<i)) 0 A).m t:=λt ht=>by
    rw[kF',kF'];refine rV es 0 _ λj e p u=>?_;rw[KW];have hk:=iN u;rcases Nat.lt_trichotomy j i with v|rfl|v
    ·rw[R j e v p (g (g (a1 (mO hk (QW _ ht))))),KU v]
    ·rw[W,KH (Nat.lt_irrefl _)]
    ·rw[I j e v p (g (g (g (a1 (mO ht hk))))),KH Uo]
   have e5:∀t∈(es[i]).lk,Al (stD es (λq=>decide (q<i)) 0 A) t ->Al (stD es (λq=>d.getD q false) 0 A) t:=λt ht=>by
    unfold Al;rw[kF',kF'];refine Dx es 0 _ _ (λh=>h) λj e x p Y=>?_;rw[KW];have hk:=iN (l:=e.wm) (k:=t) (by rw[Y];simp);refine⟨λM=>R j e (of_decide_eq_true M) p (g (g (a1 (mO hk (QV _ (QW _ ht)))))),λM h2=>?_⟩;have h2:=of_decide_eq_false h2;have e6:j≠i:=λe1=>by
     have M:d.getD j false=true:=M;rw[e1,W]at M;cases M
    refine Decidable.byContradiction λhn=>?_;have g4:x.alive=false:=by simpa using hn
    have h3:=I j e Uo p (g (g (g (g (a1 (mO ht (Jo Y g4)))))));have M:d.getD j false=true:=M;rw[h3]at M;cases M
   by_cases b0:i=z
   ·subst b0
    obtain⟨ch,ks,g5,g6⟩:=g1 o _ a3 a0;refine Dt (o:=o) ho ?_;have b':=g5 _ s' w (λL S=>False) (λc L S=>c=ch/\K (.panic ch) L S) e3 e4 e5 Z λL S a2 c0=>⟨rfl,g6 _ L S a2 (c0.trans hd)⟩
    exact tP b7 (l:=all) (Q:=λe a' w'=>(e= .normal/\wpAny P .any all.toArray (p8 n K) O (d.setIfInBounds i true) a' w') \/∃c,e= .panic c/\p8 n K (.panic c) a' w') (λL S c2 a7 h=>h.elim) (λc L S c2 a7 ⟨M,h3⟩=>.inr ⟨c,rfl,.inr ⟨c,rfl⟩,L,a7,by rw[M];exact h3⟩) [o] s' w a hF b'
   obtain⟨e7,g7⟩:=g0 i o _ b0 a3 a0 λh4=>by
    obtain⟨H,_,_,h3,_,h5⟩:=U i o (KV _) a3;refine⟨H,h5,?_⟩;cases hb:H.testBit z with
    |false=>rfl
    |true=>
     have h6:=h3 d N (λo2 b2 ed e8 hb=>a6 o2 b2 ed e8 hb) z hb;rw[V]at h6;cases h6
   have g8:∀k∈(es[i]).F,NoRef k (stD es (λq=>d.getD q false) 0 A):=λk hk=>by
    obtain⟨n1,n2⟩:=ti' g7 k hk;have c3:∀(j:Nat) e,es[j]?=some e ->d.getD j false=true ->j<i \/(i<j/\jE es[i] e=false):=λj e p u=>by
     rcases Nat.lt_trichotomy j i with v|rfl|v
     ·exact .inl v
     ·rw[W]at u;cases u
     ·refine .inr ⟨v,?_⟩
      cases hc:jE es[i] e with
      |false=>rfl
      |true=>rw[I j e v p hc]at u;cases u
    have a4:∀(e:En),k∈uz e.wr++(kD e.wm++keysOf e.wm) ->jE es[i] e=true:=λe h=>g (g (g (g (g (mO hk h)))));refine⟨λt a ha c4=>?_,λj x Y c5=>?_,λx Y=>?_⟩
    ·rw[oY']at ha
     rcases valD_some es 0 _ ha with h2|⟨j,e,p,u,Y⟩
     ·exact n1 (t,a) (lQ' es _ 0 A _ (.inl (dj h2))) c4
     ·rw[KW]at u
      rcases c3 j e p u with v|⟨v,hc⟩
      ·exact n1 (t,a) (lQ' es _ 0 A _ (.inr ⟨j,e,p,by rw[KW];exact KU v,dj Y⟩)) c4
      ·rw[a4 e (QW _ (Jn (dj Y) c4))]at hc
       cases hc
    ·rw[kF']at Y
     rcases valD_some es 0 _ Y with h2|⟨q,e,p,u,hy⟩
     ·exact(n2 (j,x) (gO' es _ 0 A _ (.inl (dj h2)))).1 c5
     ·rw[KW]at u
      rcases c3 q e p u with v|⟨v,hc⟩
      ·exact(n2 (j,x) (gO' es _ 0 A _ (.inr ⟨q,e,p,by rw[KW];exact KU v,dj hy⟩))).1 c5
      ·rw[a4 e (QV _ (QW _ (CY (dj hy) c5)))]at hc
       cases hc
    ·rw[kF']at Y
     rcases valD_some es 0 _ Y with h2|⟨q,e,p,u,hy⟩
     ·exact(n2 (k,x) (gO' es _ 0 A _ (.inl (dj h2)))).2 rfl
     ·rw[KW]at u
      rcases c3 q e p u with v|⟨v,hc⟩
      ·exact(n2 (k,x) (gO' es _ 0 A _ (.inr ⟨q,e,p,by rw[KW];exact KU v,dj hy⟩))).2 rfl
      ·rw[a4 e (QV _ (QV _ (iN (by rw[hy];simp))))]at hc
       cases hc
   refine Dt (o:=o) ho ?_;have b':=e7 _ s' w (λL S=>L.d=s.d/\Rep w0 X C0 ((stD es (λq=>d.getD q false) 0 A).upd (es[i]).wr (es[i]).wm) L S) (λ_ _ _=>False) e3 e4 e5 g8 Z λL S a2 c0=>⟨c0.trans hd,a2⟩
   refine tP b7 (l:=all) (Q:=λe a' w'=>(e= .normal/\wpAny P .any all.toArray (p8 n K) O (d.setIfInBounds i true) a' w') \/∃c,e= .panic c/\p8 n K (.panic c) a' w') (λL S c2 a7 ⟨e9,a2⟩=>.inl ⟨rfl,?_⟩) (λ_ _ _ _ _ hk=>hk.elim) [o] s' w a hF b';have E:∀q,(d.setIfInBounds i true).getD q false=(if q=i then true else d.getD q false):=λq=>by
    by_cases hq:q=i
    ·subst hq
     rw[KX rfl];simp[a8]
    ·rw[KY hq,getD_set_ne false (Ne.symm hq)]
   refine ih _ c2 S (by simpa using a9) (N.set hi) ?_ ⟨⟨L,a7,e9,a2.ext (λt=>?_) λk=>?_⟩,by rw[E z,KY (Ne.symm b0)];exact V⟩
   ·have h7:(List.range all.length).countP (λq=>!(d.setIfInBounds i true).getD q false)<(List.range all.length).countP (λq=>!d.getD q false):=by
     have e':∀l:List Nat,i∈l ->l.Nodup ->l.countP (λq=>!(d.setIfInBounds i true).getD q false)<l.countP (λq=>!d.getD q false):=by
      intro l
      induction l with
      |nil=>intro h;cases h
      |cons q r g9=>
       intro hm b3;rw[List.nodup_cons]at b3;rw[List.countP_cons,List.countP_cons];rcases List.mem_cons.1 hm with rfl|hm
       ·have e1:r.countP (λq=>!(d.setIfInBounds i true).getD q false)=r.countP (λq=>!d.getD q false):=by
         refine List.countP_congr λq hq=>?_;rw[E q,KY λe1:q=i=>b3.1 (e1▸hq)]
        rw[e1,E,KX rfl,W];simp
       ·have:=g9 hm b3.2
        have e6:q≠i:=λe1=>b3.1 (e1▸hm);rw[E q,KY e6];omega
     exact e' _ (List.mem_range.2 b9) List.nodup_range
    omega
   ·rw[oY']
    show _=look ((es[i]).wr++(stD es (λq=>d.getD q false) 0 A).e) t;rw[lA];cases u:look (es[i]).wr t with
    |some x=>
     refine yI es 0 i _ _ a0 (by simp only[KW];rw[E,KX rfl]) u λj e v p a5=>?_;rw[KW,E,KY Uo]at a5;cases Y:look e.wr t with
     |none=>rfl
     |some y=>
      have:=I j e v p (a1 (mO (iN (by rw[u];simp)) (QV _ (iN (by rw[Y];simp)))));rw[this]at a5;cases a5
    |none=>
     simp only;rw[oY'];refine rV es 0 _ λj e p Y=>?_;rw[KW,E,KY];intro e1;subst e1;rw[a0]at p;obtain rfl:=JB p;exact Y u
   ·rw[kF']
    show _=look ((es[i]).wm++(stD es (λq=>d.getD q false) 0 A).m) k;rw[lA];cases u:look (es[i]).wm k with
    |some x=>
     refine yI es 0 i _ _ a0 (by simp only[KW];rw[E,KX rfl]) u λj e v p a5=>?_;rw[KW,E,KY Uo]at a5;cases Y:look e.wm k with
     |none=>rfl
     |some y=>
      have:=I j e v p (g (g (a1 (mO (iN (by rw[u];simp)) (QV _ (QV _ (iN (by rw[Y];simp))))))));rw[this]at a5;cases a5
    |none=>
     simp only;rw[kF'];refine rV es 0 _ λj e p Y=>?_;rw[KW,E,KY];intro e1;subst e1;rw[a0]at p;obtain rfl:=JB p;exact Y u
 unfold EvCode;intro a hF;refine Go.wp_mono (wp_region_any b7.mixed (c' _ _ a _ Ud (λk o _ hk=>by simp[Array.getD]at hk) ?_ ⟨⟨s,hF,rfl,?_⟩,by simp[Array.getD]⟩)) λe a' w' p=>?_
 ·refine KQ (List.countP_le_length) ?_
  simp
 ·obtain⟨C,ρ,hR⟩:=hR
  rw[gN' _ _ _ _ λj _=>by simp[Array.getD]];exact⟨C,ρ,hR.dr _⟩
 ·exact p.2
theorem AH':∀(l:List Oper) (A:AS) (fs:List En) (e:En) (ch:List PanicEntry) (ks:List Nat) (B:AS),o4 w0 X C0 P τ n all l A fs e ch ks B ->(fs.length<l.length/\e.wr=[]/\e.wm=[]/\∀(j:Nat) (D:Nat ->Bool),(∀i,i<fs.length ->D (j+i)=true) ->B=stD fs D j A)/\∀(j i:Nat) o,l[i]?=some o ->(∀f,fs[i]?=some f ->mM w0 X C0 P τ n all o (stD fs (λq=>decide (q<j+i)) j A) f/\jZ (stD fs (λq=>decide (q<j+i)) j A) f.F=true)/\(i=fs.length ->rT w0 X C0 P τ n all o (stD fs (λq=>decide (q<j+i)) j A) e ch ks):=by
 intro l
 induction l with
 |nil=>
  intro A fs e ch ks B h;cases fs<;>exact h.elim
 |cons o l v=>
  intro A fs e ch ks B h;cases fs with
  |nil=>
   obtain⟨h,x,y,z⟩:=h;refine⟨⟨Ud,x,y,λ_ _ _=>z.symm⟩,λj i g d=>⟨λf b=>by simp at b,λa=>?_⟩⟩;obtain rfl:i=0:=a;obtain rfl:=JB d;exact h
  |cons f fs=>
   obtain⟨E,F⟩:=h;obtain⟨⟨H,I,L,M⟩,N⟩:=v _ _ _ _ _ _ F;refine⟨⟨by simpa using H,I,L,λj D m=>?_⟩,λj i g d=>?_⟩
   ·have p:=m 0 Ud
    rw[Nat.add_zero]at p;simp only[stD];rw[p];exact M (j+1) D λi a=>by
     have:=m (i+1) (by simpa using a)
     rwa [show j+(i+1)=j+1+i by omega]at this
   cases i with
   |zero=>
    obtain rfl:=JB d;refine⟨λr b=>?_,λa=>by simp at a⟩;obtain rfl:=JB b;rw[gN' _ _ _ _ λq Q=>Uk];exact E
   |succ i=>
    obtain⟨t,u⟩:=N (j+1) i g d;rw[show j+1+i=j+(i+1) by omega]at t u;have O:stD (f::fs) (λq=>decide (q<j+(i+1))) j A=stD fs (λq=>decide (q<j+(i+1))) (j+1) (A.upd f.wr f.wm):=by
     simp only[stD];rw[KU (show j<j+(i+1) by omega)]
    rw[O];exact⟨λr b=>t r b,λa=>u (by simpa using a)⟩
theorem Jt(g:aS P τ){es:List En}{id:Nat}{K:Exit ->St ->World ->Prop}(h:lE w0 X C0 P τ n all all A es B)(a:j3 all es [] []=true)(j:Rep w0 X C0 A s w)(l:∀s' w',Rep w0 X C0 B s' w' ->s'.d=s.d ->K .normal s' w'):EvCode P n (.region id all.toArray true) s w K:=by
 have b:=tk' all A B es h;refine Dy g (B:=B) all.length b (KJ _) (λi o e _ d m _=>?_) (λ_ D p=>AG' all A B es h 0 D λi r=>by rw[KW];exact p i r) (λo e d _=>?_) a j λ_=>l
 ·have:=yV' all A B es h 0 i o e d m
  rwa [KW]at this
 ·rw[QF (KJ _)]at d
  cases d
theorem oZ':∀(fs gs:List En) (D:Nat ->Bool) (j:Nat) (A:AS),stD (fs++gs) D j A=stD gs D (j+fs.length) (stD fs D j A)
 |[],gs,D,j,A=>rfl
 |f::fs,gs,D,j,A=>by
  simp only[List.cons_append,stD,JV];rw[oZ' fs gs D (j+1),show j+1+fs.length=j+(fs.length+1) by omega]
theorem Ju(r:aS P τ){fs gs:List En}{e:En}{ch:List PanicEntry}{ks:List Nat}{B I:AS}{id:Nat}{K:Exit ->St ->World ->Prop}(L:o4 w0 X C0 P τ n all all A fs e ch ks B)(E:lE w0 X C0 P τ n all ((kH fs.length all []).drop (fs.length+1)) B gs I)(b:j3 all (fs++e::gs) [] []=true)(M:Rep w0 X C0 A s w){F:List En}(t:∀f∈fs++e::gs,f∈F)(N:∀s' w',Rep w0 X C0 (rX F ks A) s' w' ->s'.d=s.d ->K (.panic ch) s' w'):EvCode P n (.region id all.toArray true) s w K:=by
 obtain⟨⟨H,u,v,O⟩,d⟩:=AH' all A fs e ch ks B L;have x:=tk' _ _ _ _ E;rw[VK,yK]at x;have g:(fs++e::gs).length=all.length:=Uk
 have j:∀i,i<=fs.length ->stD (fs++e::gs) (λq=>decide (q<i)) 0 A=stD fs (λq=>decide (q<i)) 0 A:=λi l=>by
  rw[oZ',gN' _ _ _ _ λq Q=>Uk]
 refine Dy r (B:=A) (es:=fs++e::gs) fs.length g (Nat.le_of_lt H) (λi o f l p a m=>?_) (λh=>Uo) (λo f p a=>⟨ch,ks,?_,λD s' w' y=>N s' w' ?_⟩) b M λh=>Uo
 ·rcases Nat.lt_or_gt_of_ne l with l|l
  ·rw[QH l]at a
   have:=(d 0 i o p).1 f a;rw[KW]at this;rw[j i Uo];exact this
  ·obtain⟨z,R,S⟩:=m H
   have U:=Jr fs.length all [] i o z p (by simpa using R) S;obtain⟨k,rfl⟩:∃k,i=fs.length+1+k:=⟨i-(fs.length+1),Uo⟩
   rw[QU Uo,show fs.length+1+k-fs.length=k+1 by omega,List.getElem?_cons_succ]at a;have:=yV' _ _ _ _ E (fs.length+1) k o f (by rw[List.getElem?_drop];exact U) a;have V:stD (fs++e::gs) (λq=>decide (q<fs.length+1+k)) 0 A=stD gs (λq=>decide (q<fs.length+1+k)) (fs.length+1) B:=by
    rw[oZ',KW,<- O 0 _ λq Q=>by rw[KW];exact KU Uo];simp only[stD];rw[KU (show fs.length<fs.length+1+k by omega),u,v]
    rfl
   rw[V];exact this
 ·rw[QU (KJ _),Nat.sub_self]at a
  obtain rfl:=JB a;have:=(d 0 _ o p).2 rfl;rw[KW]at this;rw[j _ (KJ _)];exact this
 ·exact Jm y t
end
structure VCode(P:Program)(n:Nat)(c:Code)(A:AS)(K:Exit ->AS ->Prop):Prop where
 go:
 ∀(w0:World) (X:List Nat) (C0:Mem) (s:St) (w:World),Rep w0 X C0 A s w ->EvCode P n c s w λe s' w'=>s'.d=s.d/\∃A',K e A'/\Rep w0 X C0 A' s' w'
structure mQ(all:List Oper)(es:List En)(k:Prop):Prop where
 go:j3 all es.reverse [] []=true/\k
theorem qa{all:List Oper}{es:List En}{k:Prop}(h:j3 all es.reverse [] []=true)(a:k):mQ all es k:=by
 exact⟨⟨h,a⟩⟩
def qb(m:List Bool)(l:List Oper):List Oper:=List.rec (motive:=λ_=>List Oper ->List Oper) (λl=>l) (λb _ ih l=>List.rec (motive:=λ_=>List Oper) [] (λo t _=>Bool.rec (motive:=λ_=>List Oper) (o::ih t) (nopO o::ih t) b) l) m l
structure yL(all:List Oper)(es:List En)(k:List Oper ->Prop):Prop where
 go:∃m,(kH (es.length-1) all []).drop es.length=qb m (all.drop es.length)/\k (qb m (all.drop es.length))
theorem r7{all:List Oper}{es:List En}{k:List Oper ->Prop}(m:List Bool)(a:k (qb m (all.drop es.length)))(h:(kH (es.length-1) all []).drop es.length=qb m (all.drop es.length):=by kernel_rfl):yL all es k:=⟨m,h,a⟩
def leftV(P:Program)(τ:Tau)(n:Nat)(all:List Oper)(es:List En)(A:AS)(K:List En ->Prop):Prop:=match all.drop es.length with
 |[]=>mQ all es (K es)
 |_=>yL all es λl=>VL P τ n all (λes _=>mQ all es (K es)) (λ_ _ _ _=>False) l es A
def gp(k:AS ->Prop)(K:Exit ->AS ->Prop):Exit ->AS ->Prop
 | .normal,A=>k A
 |e,A=>K e A
def r8(id:Nat)(K:Exit ->AS ->Prop):Exit ->AS ->Prop
 | .exit j,A=>match Nat.beq j id with
  |true=>K .normal A
  |false=>K (.exit j) A
 |e,A=>K e A
def vx(P:Program)(τ:Tau)(n:Nat)(c:Code):AS ->(Exit ->AS ->Prop) ->Prop:=
 Code.rec (motive:=λ_=>AS ->(Exit ->AS ->Prop) ->Prop)
  (λA K=>K .normal A)
  (λ_ ops draw A K=>Bool.rec (motive:=λ_=>Prop) (VL P τ n ops.toList (λ_ B=>K .normal B) (λ_ ch ks B=>K (.panic ch) (B.upd [] (dk ks))) ops.toList [] A) (VL P τ n ops.toList (λes B=>mQ ops.toList es (K .normal B)) (λes ch ks B=>leftV P τ n ops.toList es B λfs=>K (.panic ch) (rX fs ks A)) ops.toList [] A) draw)
  (λ_ _ iha ihb A K=>iha A (gp (λA'=>ihb A' K) K))
  (λc _ _ iha ihb A K=>rd A c λa=>match a with
   | .c (.p (.bool t))=>Br t (iha A K) (ihb A K)
   |_=>False)
  (λid _ ih A K=>ih A (r8 id K))
  (λc _ A K=>VCode P n (.loop c) A K)
  (λf ps x y _ _ A K=>VCode P n (.rangeFunc f ps x y) A K)
  (λid A K=>K (.exit id) A)
  (λx _ A K=>VCode P n (.scope x) A K)
  (λ_ A K=>K .normal A)
  (λl A K=>VCode P n (.goto l) A K)
  (λA K=>K .ret A)
  (λm A K=>VCode P n (.refuse m) A K) c
def RK(w0:World)(X:List Nat)(C0:Mem)(d:List Deferred)(K:Exit ->AS ->Prop):Exit ->St ->World ->Prop:=λe s w=>s.d=d/\∃A,K e A/\Rep w0 X C0 A s w
section
variable{w0:World}{X:List Nat}{C0:Mem}{P:Program}{τ:Tau}{n:Nat}{A B:AS}{s:St}{w:World}
theorem Dz(z:aS P τ):∀(c:Code) (A:AS) (s:St) (w:World) (K:Exit ->AS ->Prop),vx P τ n c A K ->Rep w0 X C0 A s w ->EvCode P n c s w (RK w0 X C0 s.d K):=by
 intro c
 induction c with
 |skip=>
  intro A s w K h i;unfold EvCode;exact λa u=>wp_skip ⟨s,u,rfl,A,h,i⟩
 |region id p R=>
  intro A s w K h i;cases R with
  |false=>
   have h:VL P τ n p.toList (λ_ B=>K .normal B) (λ_ E O B=>K (.panic E) (B.upd [] (dk O))) p.toList [] A:=h;unfold EvCode;intro a u;refine mC z (.region id p false) s w _ ?_ a u;rcases VL_ok (w0:=w0) (X:=X) (C0:=C0) z h with ⟨F,B,M,d⟩|⟨F,e,E,O,B,M,d⟩
   ·exact Dr (K:=λs' w'=>RK w0 X C0 s.d K .normal s' w') M i λs' w' b r=>⟨r,B,d,b⟩
   ·exact Ds (kp:=λE s' w'=>RK w0 X C0 s.d K (.panic E) s' w') M i λs' w' b r=>⟨r,_,d,b⟩
  |true=>
   have h:VL P τ n p.toList (λQ B=>mQ p.toList Q (K .normal B)) (λQ E O B=>leftV P τ n p.toList Q B λF=>K (.panic E) (rX F O A)) p.toList [] A:=h;rcases VL_ok (w0:=w0) (X:=X) (C0:=C0) z h with ⟨F,B,M,d⟩|⟨F,e,E,O,B,M,d⟩
   ·replace d:=d.go
    rw[JD,List.reverse_reverse]at d;have:=Jt z (id:=id) (K:=RK w0 X C0 s.d K) M d.1 i λs' w' b r=>⟨r,B,d.2,b⟩
    simpa using this
   ·have d:VL P τ n p.toList (λQ _=>mQ p.toList Q (K (.panic E) (rX Q O A))) (λ_ _ _ _=>False) ((kH F.length p.toList []).drop (F.length+1)) (e::F.reverse) B:=by
     rw[JD]at d;unfold leftV at d;split at d
     ·rename_i h0
      have D:(kH F.length p.toList []).drop (F.length+1)=[]:=List.eq_nil_of_length_eq_zero (by
       have:=KG List.length h0;simp only[VK,JV,List.length_reverse,JU]at this;rw[VK,yK];exact this)
      rw[D];exact d
     ·obtain⟨m,D,L⟩:=d.go
      rw[<- D,JV,List.length_reverse,Nat.add_sub_cancel]at L;exact L
    rcases VL_ok (w0:=w0) (X:=X) (C0:=C0) z d with ⟨gs,B',hG,d⟩|⟨_,_,_,_,_,_,d⟩
    ·replace d:=d.go
     rw[List.reverse_append,List.reverse_reverse,List.reverse_cons,List.reverse_reverse,List.append_assoc]at d;have:=Ju z (id:=id) (K:=RK w0 X C0 s.d K) M hG d.1 i (λf hf=>by simpa[or_comm,or_left_comm,or_assoc]using hf) λs' w' b r=>⟨r,_,d.2,b⟩
     simpa using this
    ·exact d.elim
 |seq x y H I=>
  intro A s w K h i;have h:vx P τ n x A (gp (λA'=>vx P τ n y A' K) K):=h;have D:=H A s w _ h i;unfold EvCode at D ⊢;intro a u;refine wp_seq (Go.wp_mono (D a u) λe a' w' U=>?_);obtain⟨s',g,r,A',d,b⟩:=U;cases e with
  |normal=>
   have L:=I A' s' w' K d b;unfold EvCode at L;rw[r]at L;exact L a' g
  |exit id=>exact⟨s',g,r,A',d,b⟩
  |goto l=>exact⟨s',g,r,A',d,b⟩
  |ret=>exact⟨s',g,r,A',d,b⟩
  |panic E=>exact⟨s',g,r,A',d,b⟩
  |outgrown=>exact⟨s',g,r,A',d,b⟩
 |cond c x y H I=>
  intro A s w K h i;obtain⟨a0,D,L,V⟩:=bM (show rd A c _ from h);split at V
  ·rename_i t
   obtain⟨C,ρ,N⟩:=i;obtain⟨_,v,S,W⟩:=N.op (Agr.rfl' A [c]) Ud D L;have W:RV C (.bool t) v:=W;cases W;unfold EvCode;intro a u;have S:=u.eval S;rcases br_cases V with ⟨e,Y⟩|⟨e,Y⟩
   ·subst e
    have:=H A s w K Y ⟨C,ρ,N⟩;unfold EvCode at this;exact wp_cond_true S (this a u)
   ·subst e
    have:=I A s w K Y ⟨C,ρ,N⟩;unfold EvCode at this;exact wp_cond_false S (this a u)
  ·exact V.elim
 |block id x Z=>
  intro A s w K h i;have D:=Z A s w _ (show vx P τ n x A (r8 id K)from h) i;unfold EvCode at D ⊢;intro a u;refine wp_block (Go.wp_mono (D a u) λe a' w' U=>?_);obtain⟨s',g,r,A',d,b⟩:=U;cases e with
  |normal=>exact⟨s',g,r,A',d,b⟩
  |exit j=>
   simp only[Exit.inBlock];simp only[r8]at d
   by_cases hj:j=id
   ·subst hj
    rw[KX rfl];rw[Nat.beq_refl]at d;exact⟨s',g,r,A',d,b⟩
   ·rw[KY hj]
    have:Nat.beq j id=false:=by
     cases hb:Nat.beq j id with
     |true=>exact absurd (QJ hb) hj
     |false=>rfl
    rw[this]at d;exact⟨s',g,r,A',d,b⟩
  |goto l=>exact⟨s',g,r,A',d,b⟩
  |ret=>exact⟨s',g,r,A',d,b⟩
  |panic E=>exact⟨s',g,r,A',d,b⟩
  |outgrown=>exact⟨s',g,r,A',d,b⟩
 |exit id=>
  intro A s w K h i;unfold EvCode;exact λa u=>wp_exit ⟨s,u,rfl,A,h,i⟩
 |ret=>
  intro A s w K h i;unfold EvCode;exact λa u=>wp_ret ⟨s,u,rfl,A,h,i⟩
 |label l=>
  intro A s w K h i;unfold EvCode;exact λa u=>wp_label ⟨s,u,rfl,A,h,i⟩
 |loop x Z=>intro A s w K h i;have h:VCode P n (.loop x) A K:=h;replace h:=h.go;exact h w0 X C0 s w i
 |rangeFunc f ps x y H I=>intro A s w K h i;have h:VCode P n (.rangeFunc f ps x y) A K:=h;replace h:=h.go;exact h w0 X C0 s w i
 |scope x Z=>intro A s w K h i;have h:VCode P n (.scope x) A K:=h;replace h:=h.go;exact h w0 X C0 s w i
 |goto l=>intro A s w K h i;have h:VCode P n (.goto l) A K:=h;replace h:=h.go;exact h w0 X C0 s w i
 |refuse m=>intro A s w K h i;have h:VCode P n (.refuse m) A K:=h;replace h:=h.go;exact h w0 X C0 s w i
end
theorem VCode.run{P:Program}{n:Nat}{c:Code}{A:AS}{K:Exit ->AS ->Prop}(h:VCode P n c A K)(w0:World)(X:List Nat)(C0:Mem)(s:St)(w:World)(a:Rep w0 X C0 A s w):EvCode P n c s w λe s' w'=>s'.d=s.d/\∃A',K e A'/\Rep w0 X C0 A' s' w':=by
 replace h:=h.go
 exact h w0 X C0 s w a
theorem o5{P:Program}{τ:Tau}{n:Nat}{A:AS}{K:Exit ->AS ->Prop}(a:aS P τ){c:Code}(h:vx P τ n c A K):VCode P n c A K:=VCode.mk λw0 X C0 s w b=>Dz a c A s w K h b
structure Le(f:Nat ->Nat)(A B:AS):Prop where
 e:∀t b,look B.e t=some b ->look A.e t=some (b.ren f)
 m:∀k y,look B.m k=some y ->look A.m (f k)=some (y.ren f)
 i:∀j k x y,look B.m j=some x ->look B.m k=some y ->f j=f k ->j=k
section
variable{w0:World}{X:List Nat}{C0:Mem}{P:Program}{τ:Tau}{n:Nat}{A B:AS}{s:St}{w:World}
theorem Rep.le(h:Rep w0 X C0 A s w){f:Nat ->Nat}(a:Le f A B):Rep w0 X C0 B s w:=by
 obtain⟨C,ρ,h⟩:=h;have m:∀l:List Nat,Lv B l ->Lv A (l.map f):=λl p k d=>by
  obtain⟨j,D,rfl⟩:=List.mem_map.1 d;obtain⟨x,r,z⟩:=p j D;exact⟨_,a.m j x r,by rw[CX];exact z⟩
 refine⟨C,λk=>ρ (f k),λt b N p=>?_,λk y O=>?_,λj k x y g E D F d H R=>h.sep (f j) (f k) _ _ g (λe=>E (a.i j k x y D d e)) (a.m j x D) (by rw[oV];exact F) (a.m k y d) (by rw[oV];exact H) R,λk x g b o v d S=>h.off (f k) _ g b o v (a.m k x d) (by rw[oV];exact S),h.sub,h.c0,h.cn,h.kp⟩
 ·obtain⟨v,r,z⟩:=h.slot t _ (a.e t b N) (by rw[IZ];exact m _ p)
  exact⟨v,r,RA.ren_iff.1 z⟩
 ·have:=h.ent _ _ (a.m k y O)
  cases y with
  |st U T cs=>
   obtain⟨b,V,r,z,W,Y,I⟩:=this;exact⟨b,V,r,z,W,by simpa using Y,λi c u L M=>⟨(I i _ u (by rw[JX,L];rfl) M).1,λp=>RC.ren ((I i _ u (by rw[JX,L];rfl) M).2 (by rw[uk];exact m _ p))⟩⟩
  |rw e Z l=>exact this
  |fz l=>exact this
  |ob U Q=>exact this
  |dead=>exact VQ
theorem yM(p:aS P τ){c:Code}{K:Exit ->AS ->Prop}{σ:Type}(I:σ ->AS)(M:σ ->Prop)(μ:σ ->Nat)(x0:σ)(f:Nat ->Nat)(u:Le f A (I x0))(v:M x0)
  (cf:∀x,M x ->vx P τ n c (I x) (gp (λA'=>∃y f,μ y<μ x/\M y/\Le f A' (I y)) K)):VCode P n (.loop c) A K:=by
 refine⟨?_⟩;intro w0 X C0 s w D;unfold EvCode;intro a E;refine wp_loop_ghost (λy a w=>M y/\∃s',Fr n a s'/\s'.d=s.d/\Rep w0 X C0 (I y) s' w) μ x0 ⟨v,s,E,rfl,D.le u⟩ ?_;rintro y a w ⟨F,s',r,j,t⟩;have:=Dz p c (I y) s' w _ (cf y F) t;unfold EvCode at this;refine Go.wp_mono (this a r) λe Q w' H=>?_;obtain⟨i,b,d,A',m,h⟩:=H;cases e with
 |normal=>
  obtain⟨z,g,L,N,O⟩:=m;exact⟨z,⟨N,i,b,d.trans j,h.le O⟩,L⟩
 |exit id=>exact⟨i,b,d.trans j,A',m,h⟩
 |goto l=>exact⟨i,b,d.trans j,A',m,h⟩
 |ret=>exact⟨i,b,d.trans j,A',m,h⟩
 |panic R=>exact⟨i,b,d.trans j,A',m,h⟩
 |outgrown=>exact⟨i,b,d.trans j,A',m,h⟩
end
def sa(f:Nat ->Nat)(A:AS)(l:List (Nat×AV)):Prop:=List.rec (motive:=λ_=>Prop) True (λp _ ih=>look A.e p.1=some (p.2.ren f)/\ih) l
def kI(f:Nat ->Nat)(A:AS)(l:List (Nat×SE)):Prop:=List.rec (motive:=λ_=>Prop) True (λp _ ih=>look A.m (f p.1)=some (p.2.ren f)/\ih) l
theorem iu{f:Nat ->Nat}{A B:AS}(he:sa f A B.e)(hm:kI f A B.m)(hi:da f (keysOf B.m)=true):Le f A B:=by
 refine⟨λt b d=>?_,λk y e=>?_,λj k x y g i=>um hi j (iN (by rw[g];simp)) k (iN (by rw[i];simp))⟩
 ·have:=dj d
  revert this he
  generalize B.e=l
  intro he hm
  induction l with
  |nil=>cases hm
  |cons p r a=>
   have he:look A.e p.1=some (p.2.ren f)/\sa f A r:=he;rcases List.mem_cons.1 hm with h|h
   ·rw[<- h]at he
    exact he.1
   ·exact a he.2 h
 ·have:=dj e
  revert this hm
  generalize B.m=l
  intro he hm
  induction l with
  |nil=>cases hm
  |cons p r a=>
   have he:look A.m (f p.1)=some (p.2.ren f)/\kI f A r:=he;rcases List.mem_cons.1 hm with h|h
   ·rw[<- h]at he
    exact he.1
   ·exact a he.2 h
def qq':List PV ->Nat ->List (Nat×AV)
 |[],_=>[]
 |v::r,i=>(i,.c (.p v))::qq' r (i+1)
def ge':List PV ->PV
 |[v]=>v
 |vs=>.tup vs
def dU(τ:Tau)(A:AS)(l:List ResultVar):Option (List AV):=List.rec (motive:=λ_=>Option (List AV)) (some []) (λx _ ih=>match x with
 | .tmp t=>match look A.e t with
  |some a=>match gV A a.refs,ih with
   |true,some r=>some (a::r)
   |_,_=>none
  |none=>none
 | .cell t T=>match look τ.tab T,look A.e t with
  |some (_,z),some (.c (.ptr k 0))=>match look A.m k with
   |some (.st _ _ cs)=>match Nat.beq cs.length z.length,gV A (k::refsL cs),ih with
    |true,true,some r=>some (.agg cs::r)
    |_,_,_=>none
   |_=>none
  |none,some (.c (.ptr k 0))=>match look τ.ones T,look A.m k with
   |some _,some (.st _ _ [c])=>match gV A (k::c.refs),ih with
    |true,some r=>some (.c c::r)
    |_,_=>none
   |_,_=>none
  |_,_=>none) l
theorem yN{P:Program}{τ:Tau}(a:aS P τ){T q b:Nat}(hr:look τ.ones T=some q){w:World}{K:Value ->Prop}{v:Value}(h:Cl w.heap b 0 v)(e:K v):EvRun P (loadVar T ⟨b,0,none⟩) w λv w'=>w'=w/\K v:=by
 obtain⟨d,i,g,j,_⟩:=a.ones T q hr;refine run (v:=v) (w':=w) ?_ ⟨rfl,e⟩;have l:=h.cell;cases d<;>simp_all [loadVar,isAgg,run_underlying g,load,Sem.run,jz']
def uB(l:List AV):Option (List AC):=List.rec (motive:=λ_=>Option (List AC)) (some []) (λa _ ih=>match a with
 | .c x=>match ih with
  |some r=>some (x::r)
  |none=>none
 |_=>none) l
def yO(l:List AV):Option AV:=match l with
 |[a]=>some a
 |l=>match uB l with
  |some cs=>some (.tp cs)
  |none=>none
def sb(τ:Tau)(rs:List ResultVar)(r:PV):Exit ->AS ->Prop
 | .normal,A=>∃aes ps,dU τ A rs=some aes/\cL A aes=some ps/\ge' ps=r
 | .ret,A=>∃aes ps,dU τ A rs=some aes/\cL A aes=some ps/\ge' ps=r
 |_,_=>False
section
variable{P:Program}{τ:Tau}{n:Nat}{A B:AS}{s:St}{w:World}
theorem DA{w0:World}{X:List Nat}{C0 C:Mem}{ρ:Nat ->Value}(F:aS P τ)(h:Rp w0 X C0 A s w C ρ):∀{rs:List ResultVar} {aes:List AV},dU τ A rs=some aes ->∃vs:List Value,vs.length=aes.length/\(∀(i:Nat) a v,aes[i]?=some a ->vs[i]?=some v ->RA C ρ a v)/\∀k:List Value ->Prop,k vs ->kz P s rs w k:=by
 intro rs
 induction rs with
 |nil=>
  intro aes e;obtain rfl:=JB e;exact⟨[],rfl,λi a v e=>by simp at e,λk D=>D⟩
 |cons x r V=>
  intro aes e;cases x with
  |cell t T=>
   have e:(match look τ.tab T,look A.e t with
    |some (_,z),some (.c (.ptr k 0))=>match look A.m k with
     |some (.st _ _ cs)=>match Nat.beq cs.length z.length,gV A (k::refsL cs),dU τ A r with
      |true,true,some r=>some (.agg cs::r)
      |_,_,_=>none
     |_=>none
    |none,some (.c (.ptr k 0))=>match look τ.ones T,look A.m k with
     |some _,some (.st _ _ [c])=>match gV A (k::c.refs),dU τ A r with
      |true,some r=>some (.c c::r)
      |_,_=>none
     |_,_=>none
    |_,_=>none)=some aes:=e
   split at e
   ·rename_i fs z k hz H
    split at e
    ·rename_i g T' cs W
     split at e
     ·rename_i r' U I Y
      obtain rfl:=JB e;obtain⟨vs,L,M,N⟩:=V Y;have m:=nM I;obtain⟨v,O,b,l,rfl⟩:=h.slot t _ H (λj E=>m j (by simp[AV.refs,AC.refs]at E;simp[E]));obtain⟨b',Q,d,Z,_,p,hc⟩:=h.ent k _ W;rw[l]at d;injection d with d
      injection d with d
      injection d with d
      subst d;have U:=QJ U;refine⟨.agg Q.toArray::vs,by simp[L],λi c u l y=>?_,λk D=>?_⟩
      ·cases i with
       |zero=>
        obtain rfl:=JB l;obtain rfl:=JB y;refine⟨Q,rfl,p,λi c u R a0=>(hc i c u R a0).2 λq S=>m q (List.mem_cons_of_mem _ (jW (JQ R) S))⟩
       |succ i=>exact M i c u l y
      ·rw[xu,O]
       exact yA F hz Q Uo (λj v E=>by have:=Z.cl E;simpa using this) (N _ D)
     ·cases e
    ·cases e
   ·rename_i k hz H
    split at e
    ·rename_i q g T' c S W
     split at e
     ·rename_i r' I Y
      obtain rfl:=JB e;obtain⟨vs,L,M,N⟩:=V Y;have m:=nM I;obtain⟨v,O,b,l,rfl⟩:=h.slot t _ H (λj E=>m j (by simp[AV.refs,AC.refs]at E;simp[E]));obtain⟨b',Q,d,Z,_,p,hc⟩:=h.ent k _ W;rw[l]at d;injection d with d
      injection d with d
      injection d with d
      subst d
      match Q,p with
      |[u0],_=>
      refine⟨u0::vs,by simp[L],λi c u l y=>?_,λk D=>?_⟩
      ·cases i with
       |zero=>
        obtain rfl:=JB l;obtain rfl:=JB y;exact(hc 0 _ _ rfl rfl).2 λq S=>m q (List.mem_cons_of_mem _ S)
       |succ i=>exact M i c u l y
      ·rw[xu,O]
       exact yN F S (Z.cl rfl) (N _ D)
     ·cases e
    ·cases e
   ·cases e
  |tmp t=>
   have e:(match look A.e t with
    |some a=>match gV A a.refs,dU τ A r with
     |true,some r=>some (a::r)
     |_,_=>none
    |none=>none)=some aes:=e
   split at e
   ·rename_i a H
    split at e
    ·rename_i r' U I
     obtain rfl:=JB e;obtain⟨vs,L,M,N⟩:=V I;obtain⟨v,O,hr⟩:=h.slot t a H (nM U);refine⟨v::vs,by simp[L],λi b u l y=>?_,λk D=>?_⟩
     ·cases i with
      |zero=>
       obtain rfl:=JB l;obtain rfl:=JB y;exact hr
      |succ i=>exact M i b u l y
     ·rw[Ct,O]
      exact N _ D
    ·cases e
   ·cases e
theorem DB{f:FuncId}{fn:Func}{c:Code}{args:List Value}{R:Ending ->World ->Prop}(n:Nat)(rs:List ResultVar)
  (r:P.funcs[f]?=some fn) (hb:fn.body=some c) (u:fn.ntmps=n) (i:fn.results.toList=rs) (x:args.length<=n)
  (h:EvCode P n c ⟨ini args 0,[]⟩ w (jB P rs R)):Calls P f args.toArray w R:=by
 subst u i;refine calls_of_wp r hb ?_;have y:Fr fn.ntmps {tmps:=args.toArray++Array.replicate (fn.ntmps-args.toArray.size) undef,defers:=[] } ⟨ini args 0,[]⟩:=by
  refine⟨Uk,rfl,λt v z=>?_⟩;obtain⟨_,b⟩:=lC' _ _ _ _ z;rw[Nat.sub_zero]at b;have j:t<args.length:=(List.getElem?_eq_some_iff.1 b).1;rw[Array.getElem?_append_left (by simpa using j)]
  simpa using b
 unfold EvCode at h;refine Go.wp_mono (h _ y) λe F w' D=>?_;obtain⟨s,d,a⟩:=D;have m:=d.defers;cases e with
 |normal=>
  simp only[jB]at a;split at a
  ·rename_i g
   obtain⟨E,p,b⟩:=rr d a;exact⟨by rw[m,g],_,p,b⟩
  ·exact a.elim
 |ret=>
  simp only[jB]at a;split at a
  ·rename_i g
   obtain⟨E,p,b⟩:=rr d a;exact⟨by rw[m,g],_,p,b⟩
  ·exact a.elim
 |panic H=>
  simp only[jB]at a;split at a
  ·rename_i g
   exact⟨by rw[m,g],a⟩
  ·exact a.elim
 |outgrown=>exact a
 |exit id=>exact a.elim
 |goto l=>exact a.elim
theorem Jv{C:Mem}{ps:List PV}{vs:List Value}(h:cZ C ps vs):RV C (ge' ps) (one vs):=by
 obtain⟨a,b⟩:=h
 match ps,vs,a with
 |[],[],_=>exact .tup [] [] rfl λi y u d=>by simp at d
 |[x],[v],_=>exact b 0 x v rfl rfl
 |x::y::r,v::u::q,a=>exact .tup _ _ a b
def qd(τ:Tau)(rs:List ResultVar)(a:AV)(m':List (Nat×SE))(A:AS):Prop:=
 (∃bs ps r h,a= .c (.p r)/\dU τ A rs=some bs/\cL A bs=some ps/\ge' ps=r/\kI h (A.upd [] (bJ A (refsA bs))) m'/\da h (keysOf m')=true) \/
  ∃bs h,dU τ A rs=some bs/\yO bs=some (a.ren h)/\kI h A m'/\da h (keysOf m')=true
def Jw(τ:Tau)(rs:List ResultVar)(a:AV)(m':List (Nat×SE)):Exit ->AS ->Prop
 | .normal,A=>qd τ rs a m' A
 | .ret,A=>qd τ rs a m' A
 |_,_=>False
def yP(ch:List PanicEntry):Exit ->AS ->Prop
 | .panic c,_=>c=ch
 |_,_=>False
def sd(τ:Tau)(rs:List ResultVar):Except (List PanicEntry) (AV×List (Nat×SE)) ->Exit ->AS ->Prop
 | .ok q=>Jw τ rs q.1 q.2
 | .error ch=>yP ch
theorem RA.tpR{C:Mem}{ρ:Nat ->Value}{bs:List AV}{vs:List Value}{b:AV}(h:yO bs=some b)(hl:vs.length=bs.length)(l:∀(i:Nat) a v,bs[i]?=some a ->vs[i]?=some v ->RA C ρ a v):RA C ρ b (one vs):=by
 unfold yO at h;split at h
 ·rename_i a
  obtain rfl:=JB h
  match vs,hl with
  |[v],_=>exact l 0 _ v rfl rfl
 ·rename_i m p
  cases d:uB bs with
  |none=>rw[d]at h;cases h
  |some cs=>
   rw[d]at h;obtain rfl:=JB h;have g:∀(bs:List AV) (cs:List AC),uB bs=some cs ->bs=cs.map .c:=λbs=>by
    induction bs with
    |nil=>intro cs d;obtain rfl:=JB d;rfl
    |cons a r t=>
     intro cs d;have d:(match (generalizing:=false) a with
      | .c x=>match uB r with
       |some r=>some (x::r)
       |none=>none
      |_=>none)=some cs:=d
     split at d
     ·split at d
      ·rename_i y z
       obtain rfl:=JB d;rw[t y z]
       rfl
      ·cases d
     ·cases d
   have e:=g bs cs d;have D:one vs= .tuple vs.toArray:=by
    match vs,hl with
    |[],_=>rfl
    |[v],hl=>
     match bs,hl with
     |[a],_=>exact absurd rfl (p a)
    |_::_::_,_=>rfl
   rw[D];refine⟨vs,rfl,by rw[hl,e,KF],λi c u j E=>l i (.c c) u (by rw[e,JX,j];rfl) E⟩
theorem Rp.reslot{w0:World}{X:List Nat}{C0 C:Mem}{ρ:Nat ->Value}(h:Rp w0 X C0 A s w C ρ){b:AV}{v:Value}(hb:Lv A b.refs ->RA C ρ b v):Rp w0 X C0 ⟨[(0,b)],A.m⟩ ⟨[(0,v)],[]⟩ w C ρ:=⟨λt a d e=>by
 obtain⟨rfl,rfl⟩:=bI d;exact⟨v,rfl,hb e⟩,λk x g=>h.ent k x g,h.sep,h.off,h.sub,h.c0,h.cn,h.kp⟩
theorem yQ{rs:List ResultVar}{a:AV}{m':List (Nat×SE)}{w0 w:World}{X:List Nat}{C O:Mem}{d:Nat ->Value}{A:AS}{s:St}(j:aS P τ)(h:Rp w0 X C A s w O d)(S:qd τ rs a m' A):kz P s rs w λvs=>∃v C' ρ',Ending.returned (one vs)= .returned v/\Rp w0 X C ⟨[(0,a)],m'⟩ ⟨[(0,v)],[]⟩ w C' ρ':=by
 rcases S with ⟨m,ps,r,t,rfl,y,z,U,D,E⟩|⟨m,t,y,z,D,E⟩
 ·obtain⟨u,V,F,H⟩:=DA (P:=P) j h y
  obtain⟨Q,I,L,l⟩:=h.frz (refsA m) λ_ _=>rfl;obtain⟨p1,W⟩:=oS' z;have Y:RV Q r (one u):=by
   rw[<- U];refine Jv ⟨Uo,λi x v Z R=>?_⟩;have hi:=aM R;have M:m[i]?=some m[i]:=gE;obtain⟨x',q1,q2⟩:=W i _ M;rw[Z]at q1;obtain rfl:=JB q1;exact xX q2 ((F i _ v M R).mono L) λk hk=>l k (CI (JQ M) hk)
  obtain⟨N,e,g⟩:=Rep.le ⟨Q,d,I.reslot (b:=.c (.p r)) (v:=one u) λ_=>Y⟩ (iu (f:=t) (B:=⟨[(0,.c (.p r))],m'⟩) ⟨rfl,VQ⟩ D E);exact H _ ⟨_,N,e,rfl,g⟩
 ·obtain⟨u,V,F,H⟩:=DA (P:=P) j h y
  obtain⟨N,e,g⟩:=Rep.le ⟨O,d,h.reslot (b:=a.ren t) (v:=one u) λ_=>RA.tpR z Uo F⟩ (iu (f:=t) (B:=⟨[(0,a)],m'⟩) ⟨rfl,VQ⟩ D E);exact H _ ⟨_,N,e,rfl,g⟩
theorem o6 {f : FuncId} {fn : Func} {c : Code} {aes : List AV} {m : List (Nat × SE)} {r : Except (List PanicEntry) (AV × List (Nat × SE))} (n : Nat) (rs : List ResultVar) (g : aS P τ) (u : P.funcs[f]? = some fn) (hb : fn.body = some c) (y : fn.ntmps = n) (j : fn.results.toList = rs) (z : aes.length <= n) (p : (fn.name == "runtime.NumGoroutine") = false)
  (h:VCode P n c ⟨ja' aes 0,m⟩ (sd τ rs r)):VG P f aes m r:=by
 refine⟨⟨fn,u,by rw[hb];rfl,p⟩,λw X C ρ H v D=>?_⟩;refine DB n rs u hb y j Uo ?_;have:=h.run _ _ _ _ _ ⟨C,ρ,D⟩;unfold EvCode at this ⊢;intro a E;refine Go.wp_mono (this a E) λe I w' v=>?_;obtain⟨s',t,i,A',b,L,F,d⟩:=v;have i:s'.d=[]:=i;refine⟨s',t,?_⟩;cases r with
 |error x=>
  cases e with
  |panic c=>
   have b:c=x:=b;simp only[jB,i];exact⟨by rw[b],d.kp⟩
  |_=>exact b.elim
 |ok q=>
  obtain⟨a,M⟩:=q;cases e with
  |normal=>simp only[jB,i];exact yQ g d b
  |ret=>simp only[jB,i];exact yQ g d b
  |exit id=>exact b.elim
  |goto l=>exact b.elim
  |panic x=>exact b.elim
  |outgrown=>exact b.elim
theorem Jx{f:FuncId}{fn:Func}{c:Code}{e:Nat}(n:Nat)(V:aS P τ)(R:P.funcs[f]?=some fn)(h:∀u (os:List (Option Addr×Nat×Nat)),os.length<=100000 ->VCode P n c ⟨[(0,.c (.rv u 0))],[(0,.rw e 1 (os.map λq=>[.raw (sV q)]))]⟩ λS A=>S= .normal/\look A.e 0=some (.c (.rv u 0))/\look A.m 0=some (.rw e 1 (os.reverse.map λq=>[.raw (sV q)])))
  (hb : fn.body = some c := by rfl) (W : fn.ntmps = n := by rfl) (D : fn.results.toList = [] := by rfl) (E : 1 <= n := by exact QX rfl) (F : (fn.name == "runtime.NumGoroutine") = false := by decide) : uu P f e := by
 refine⟨⟨fn,R,by rw[hb];rfl,F⟩,λw v os Y Z=>?_⟩;have hR:Rp w (blk v).toList (λ_ _ _=>False) ⟨[(0,.c (.rv v 0))],[(0,.rw e 1 (os.map λq=>[.raw (sV q)]))]⟩ ⟨ini [v] 0,[]⟩ w (λ_ _ _=>False) (λ_=>v):=by
  refine⟨λt a ht _=>?_,λk x m=>?_,λj k x y g H hj l m=>?_,λ_ _ _ _ _ _ _ _ _ h=>h.elim,λ_ _ _ h=>h.elim,λ_ _ _ h=>h,λ_ _ _ h=>h.elim,Kp.refl _ _⟩
  ·obtain⟨rfl,rfl⟩:=bI ht
   exact⟨v,rfl,rfl,rfl⟩
  ·obtain⟨rfl,rfl⟩:=bI m
   refine⟨os.map λq=>[sV q],⟨by rw[ut,KF];exact Z,λg hg=>.inr (by simpa using hg)⟩,λx l=>by obtain⟨_,_,rfl⟩:=List.mem_map.1 l;rfl,Ud,λi I x b l=>?_⟩;rw[JX]at b l;cases p:os[i]? with
   |none=>rw[p]at b;cases b
   |some q=>
    rw[p]at b l;obtain rfl:=JB b;obtain rfl:=JB l;refine⟨rfl,λj y u L M=>?_⟩
    match j,L,M with
    |0,L,M=>
     obtain rfl:=JB L;obtain rfl:=JB M;exact⟨rfl,.raw _⟩
  ·obtain⟨rfl,_⟩:=bI hj
   obtain⟨rfl,_⟩:=bI m;exact absurd rfl H
 refine DB (args:=[v]) n [] R hb W D E ?_;have:=(h v os Y).run _ _ _ _ _ ⟨_,_,hR⟩;unfold EvCode at this ⊢;intro a hF;refine Go.wp_mono (this a hF) λS a' w' N=>?_;obtain⟨s',O,Q,A',⟨rfl,h1,U⟩,C1,a0,d⟩:=N;have Q:s'.d=[]:=Q;refine⟨s',O,?_⟩;simp only[jB,Q];obtain⟨v',_,q1,q2⟩:=d.slot 0 _ h1 λk m=>by
  obtain rfl:k=0:=by simpa[AV.refs,AC.refs]using m
  exact⟨_,U,rfl⟩
 subst q1;obtain⟨r,⟨c1,c2⟩,c3,c4,c5⟩:=d.ent 0 _ U;rw[<- q2]at c1;have z:r=os.reverse.map λq=>[sV q]:=by
  rw[KF]at c4;refine List.ext_getElem? λi=>?_;cases b:r[i]? with
  |none=>
   have:=List.getElem?_eq_none_iff.1 b;rw[QF (by rw[KF];omega)]
  |some I=>
   have a1:=aM b;have p:os.reverse[i]?=some _:=gE;obtain⟨d1,d2⟩:=c5 i I _ b (by rw[JX,p];rfl);rw[JX,p]
   match I,d1 with
   |[u],_=>
    have:=(d2 0 _ u rfl rfl).2;cases this
    rfl
 rw[z,ut,KF,List.length_reverse]at c1;exact⟨rfl,d.kp,c1⟩
def DC(τ:Tau)(rs:List ResultVar)(e sz:Nat)(l:List (List PV)):Exit ->AS ->Prop
 | .normal,A=>∃k,dU τ A rs=some [.c (.row k)]/\look A.m k=some (.rw e sz l)
 | .ret,A=>∃k,dU τ A rs=some [.c (.row k)]/\look A.m k=some (.rw e sz l)
 |_,_=>False
def DD(τ:Tau)(rs:List ResultVar)(T:Nat)(cs:List PV):Exit ->AS ->Prop
 | .normal,A=>∃k ds,dU τ A rs=some [.c (.ptr k 0)]/\look A.m k=some (.st 0 T ds)/\ji ds=some cs
 | .ret,A=>∃k ds,dU τ A rs=some [.c (.ptr k 0)]/\look A.m k=some (.st 0 T ds)/\ji ds=some cs
 |_,_=>False
def DE(τ:Tau)(rs:List ResultVar):Except (List PanicEntry) PV ->Exit ->AS ->Prop
 | .ok r=>sb τ rs r
 | .error ch=>yP ch
def Jy(τ:Tau)(rs:List ResultVar)(T:Nat)(r:PV)(cs':List PV):Exit ->AS ->Prop
 | .normal,A=>∃aes ps ds,dU τ A rs=some aes/\cL A aes=some ps/\ge' ps=r/\look A.m 0=some (.st 1 T ds)/\ji ds=some cs'
 | .ret,A=>∃aes ps ds,dU τ A rs=some aes/\cL A aes=some ps/\ge' ps=r/\look A.m 0=some (.st 1 T ds)/\ji ds=some cs'
 |_,_=>False
def se(τ:Tau)(rs:List ResultVar)(T:Nat):Except (List PanicEntry) (List PV×PV) ->Exit ->AS ->Prop
 | .ok (cs',r)=>Jy τ rs T r cs'
 | .error ch=>yP ch
theorem il':∀(ps:List PV) (i:Nat),qq' ps i=ja' (vals ps) i
 |[],_=>rfl
 |p::r,i=>KG ((i,AV.c (.p p)):: ·) (il' r (i+1))
theorem VCode.im{c:Code}{A:AS}{K b:Exit ->AS ->Prop}(h:VCode P n c A K)(d:∀e A,K e A ->b e A):VCode P n c A b:=⟨λw0 X C0 s w g=>by
 have:=h.run w0 X C0 s w g;unfold EvCode at this ⊢;exact λa i=>Go.wp_mono (this a i) λe r w' ⟨s',j,l,A',m,p⟩=>⟨s',j,l,A',d e A' m,p⟩⟩
section
variable{f:FuncId}{fn:Func}{c:Code}{ps:List PV}
theorem uC {r : PV} (n : Nat) (rs : List ResultVar) (a : aS P τ) (j : P.funcs[f]? = some fn) (hb : fn.body = some c) (l : fn.ntmps = n) (b : fn.results.toList = rs) (d : ps.length <= n) (g : (fn.name == "runtime.NumGoroutine") = false) (h : VCode P n c ⟨qq' ps 0, []⟩ (sb τ rs r)) : VC P f ps r := by
 refine o6 n rs a j hb l b (by rw[kE];exact d) g ?_;rw[<- il'];refine h.im λe A i=>?_;cases e<;>first|exact i.elim|(obtain⟨aes,m,p,t,u⟩:=i;exact .inl ⟨aes,m,r,id,rfl,p,t,u,VQ,rfl⟩)
theorem sf {r : PV} (n : Nat) (rs : List ResultVar) (a : aS P τ) (g : P.funcs[f]? = some fn) (hb : fn.body = some c) (i : fn.ntmps = n) (b : fn.results.toList = rs) (d : ps.length <= n) (e : (fn.name == "runtime.NumGoroutine") = false)
  (h:vx P τ n c ⟨qq' ps 0,[]⟩ (sb τ rs r)):VC P f ps r:=uC n rs a g hb i b d e (o5 a h)
theorem Jz {e sz : Nat} {l : List (List PV)} (n : Nat) (rs : List ResultVar) (a : aS P τ) (j : P.funcs[f]? = some fn) (hb : fn.body = some c) (m : fn.ntmps = n) (b : fn.results.toList = rs) (d : ps.length <= n) (g : (fn.name == "runtime.NumGoroutine") = false) (h : VCode P n c ⟨qq' ps 0, []⟩ (DC τ rs e sz l)) : VO P f ps e sz l := by
 refine o6 n rs a j hb m b (by rw[kE];exact d) g ?_;rw[<- il'];refine h.im λe A i=>?_;cases e<;>first|exact i.elim|(obtain⟨k,p,r⟩:=i;exact .inr ⟨_,λ_=>k,p,rfl,⟨r,VQ⟩,rfl⟩)
theorem JA {T : Nat} {cs : List PV} (n : Nat) (rs : List ResultVar) (a : aS P τ) (l : P.funcs[f]? = some fn) (hb : fn.body = some c) (m : fn.ntmps = n) (b : fn.results.toList = rs) (d : ps.length <= n) (g : (fn.name == "runtime.NumGoroutine") = false) (h : VCode P n c ⟨qq' ps 0, []⟩ (DD τ rs T cs)) : VN P f ps T cs := by
 refine o6 n rs a l hb m b (by rw[kE];exact d) g ?_;rw[<- il'];refine h.im λe A i=>?_;cases e<;>first|exact i.elim|(obtain⟨k,t,p,j,r⟩:=i;exact .inr ⟨_,λ_=>k,p,rfl,⟨by rw[nj' r]at j;exact j.trans (KG (λx=>some (SE.st 0 T x)) (rK _ _).symm),VQ⟩,rfl⟩)
theorem JC {r : Except (List PanicEntry) PV} (n : Nat) (rs : List ResultVar) (a : aS P τ) (g : P.funcs[f]? = some fn) (hb : fn.body = some c) (i : fn.ntmps = n) (b : fn.results.toList = rs) (d : ps.length <= n) (e : (fn.name == "runtime.NumGoroutine") = false) (h : VCode P n c ⟨qq' ps 0, []⟩ (DE τ rs r)) : VX P f ps r := by
 cases r with
 |ok r=>exact uC n rs a g hb i b d e h
 |error j=>exact o6 (r:=.error j) n rs a g hb i b (by rw[kE];exact d) e (by rw[<- il'];exact h)
theorem JE {T : Nat} {cs : List PV} {r : Except (List PanicEntry) (List PV × PV)} (n : Nat) (rs : List ResultVar) (a : aS P τ) (i : P.funcs[f]? = some fn) (hb : fn.body = some c) (j : fn.ntmps = n) (b : fn.results.toList = rs) (g : ps.length + 1 <= n) (d : (fn.name == "runtime.NumGoroutine") = false)
  (h:VCode P n c ⟨(0,.c (.ptr 0 0))::qq' ps 1,[(0,.st 1 T (cs.map .p))]⟩ (se τ rs T r)):eW P f T cs ps r:=by
 rw[il']at h;have l:(AV.c (.ptr 0 0)::vals ps).length<=n:=by rw[JV,kE];exact g
 match r,h with
 | .error u,h=>exact o6 (r:=.error u) n rs a i hb j b l d h
 | .ok (v,r),h=>
  refine o6 (r:=.ok (_,_)) n rs a i hb j b l d (h.im λe A m=>?_);cases e<;>first|exact m.elim|(obtain⟨aes,y,H,z,D,E,t,F⟩:=m;exact .inl ⟨aes,y,_,id,rfl,z,D,E,⟨by rw[nj' F]at t;exact(yv t (by simp[SE.fl])).trans (KG (λx=>some (SE.st 1 T x)) (rK _ _).symm),VQ⟩,rfl⟩)
end
end
def nilV:AV:=.c (.p (.raw (.slice none 0 0)))
section
variable{w0:World}{X:List Nat}{C0:Mem}{P:Program}{τ:Tau}{n:Nat}{A B:AS}{s:St}{w:World}{c:Code}{K:Exit ->AS ->Prop}
theorem VCode.of(h:VCode P n c B K)(a:∀(w0:World) (X:List Nat) (C0:Mem) (s:St) (w:World),Rep w0 X C0 A s w ->Rep w0 X C0 B s w):VCode P n c A K:=by
 refine⟨?_⟩
 replace h:=h.go
 exact λw0 X C0 s w b=>h w0 X C0 s w (a w0 X C0 s w b)
theorem dC(t k e sz:Nat)(p:look A.e t=some nilV)(r:jZ A [k]=true)(h:VCode P n c (A.upd [(t,.c (.row k))] [(k,.rw e sz [])]) K):VCode P n c A K:=by
 refine h.of λw0 X C0 s w ⟨C,ρ,l⟩=>?_;have u:=rU r k Ud;obtain⟨v,y,b⟩:=l.slot t _ p (λj z=>by cases z);have b:RV C (.raw (.slice none 0 0)) v:=b;cases b;refine⟨C,jX ρ k (.slice none 0 0),l.fresh u (Kp.refl [] w) (λg d=>by cases d) ⟨[],?_,(λx m=>by cases m),rfl,λi I x D m=>by simp at D⟩ (λE a F=>?_) λE H=>rfl⟩
 ·rw[gj]
  exact⟨⟨Ud,.inl ⟨rfl,rfl⟩⟩,λg d=>by cases d⟩
 ·obtain⟨rfl,rfl⟩:=bI F
  exact⟨_,y,(gj _ _ _).symm⟩
theorem lF(j i k e sz:Nat){r:Nat}{T:Nat}{cs:List AC}(N:look A.m j=some (.st r T cs))(hi:cs[i]?=some (.p (.raw (.slice none 0 0))))(O:jZ A [k]=true)(v:k≠j)(h:VCode P n c (A.upd [] [(j,.st r T (cs.set i (.row k))),(k,.rw e sz [])]) K):VCode P n c A K:=by
 refine h.of λw0 X C0 s w ⟨C,ρ,Q⟩=>?_;have R:=rU O k Ud;have E:Rp w0 X C0 (A.upd [] [(k,.rw e sz [])]) s w C (jX ρ k (.slice none 0 0)):=Q.fresh R (Kp.refl [] w) (λg y=>by cases y) ⟨[],by rw[gj];exact⟨⟨Ud,.inl ⟨rfl,rfl⟩⟩,λg y=>by cases y⟩,(λx F=>by cases F),rfl,λi H x hi F=>by simp at hi⟩ (λS a D=>by cases D) λS U=>rfl;have l:look (A.upd [] [(k,SE.rw e sz [])]).m j=some (.st r T cs):=by
  show look ([(k,SE.rw e sz [])]++A.m) j=_;rw[rx]
  ·exact N
  ·rw[cI]
   cases V:Nat.beq k j with
   |true=>exact absurd (QJ V) v
   |false=>rfl
 obtain⟨b,H,W,Y,g3,Z,I⟩:=E.ent j _ l;have h2:=E.modSt (wr:=[]) (cs':=cs.set i (.row k)) (us':=H) l W ((Kp.refl [] w).weak Ud) Y (by simpa using Z) (λq c u d L=>by
  rw[List.getElem?_set]at d
  by_cases M:i=q
  ·subst M
   simp only[if_true]at d;split at d
   ·obtain rfl:=JB d
    obtain⟨o1,o2⟩:=I i _ u hi L;have hr:RV C (.raw (.slice none 0 0)) u:=o2 (λz hz=>by cases hz);cases hr;exact⟨rfl,λ_=>(gj _ _ _).symm⟩
   ·cases d
  ·rw[KY M]at d
   exact I q c u d L) (s':=s) (λt a D=>by cases D) (λ_ _=>rfl)
 exact⟨C,_,h2⟩
end
theorem JI{r:Int}{k:Int ->Prop}(a:k (IntKind.i64.wrap r)):nO .i64 r k:=by
 exact⟨⟨_,rfl,a⟩⟩
theorem bV{P:Program}{n:Nat}{o:Oper}{A:AS}{k:Kk}{pn:List PanicEntry ->List Nat ->Prop}{f:FuncId}{aes:List AV}{ps:List PV}{b:Bool}{q' qc:Option (List PV)}(h:VC P f ps (.bool b))(h1:b=true ->fin n o.dst (.c (.p (.bool true))) λwr=>k wr (bJ A (refsA aes)) [])(h2:b=false ->fin n o.dst (.c (.p (.bool false))) λwr=>k wr (bJ A (refsA aes)) [])(a:cL A aes=some ps:=by rfl):gk P n o A k pn f aes (some ps) q' qc:=by
 cases b with
 |true=>exact ae h (h1 rfl) a
 |false=>exact ae h (h2 rfl) a
section
variable{P:Program}{τ:Tau}{n:Nat}{A:AS}{K:Exit ->AS ->Prop}
theorem VCode.seq{a b:Code}(h:VCode P n a A (gp (λA'=>VCode P n b A' K) K)):VCode P n (.seq a b) A K:=by
 refine VCode.mk λw0 X C0 s w y=>?_;have v:=h.run w0 X C0 s w y;unfold EvCode at v ⊢;intro r z;refine wp_seq<|Go.wp_mono (v r z) λe D w' t=>?_;obtain⟨s',d,j,A',i,g⟩:=t;cases e with
 |normal=>
  have i:VCode P n b A' K:=i;have x:=i.run w0 X C0 s' w' g;unfold EvCode at x;refine Go.wp_mono (x D d) λe E F t=>?_;obtain⟨u,m,p,q⟩:=t;exact⟨u,m,p.trans j,q⟩
 |exit id=>exact⟨s',d,j,A',i,g⟩
 |goto l=>exact⟨s',d,j,A',i,g⟩
 |ret=>exact⟨s',d,j,A',i,g⟩
 |panic H=>exact⟨s',d,j,A',i,g⟩
 |outgrown=>exact⟨s',d,j,A',i,g⟩
theorem VCode.mono{c:Code}{g:Exit ->AS ->Prop}(h:VCode P n c A K)(j:∀e A w0 X C0 s w,K e A ->Rep w0 X C0 A s w ->∃A',g e A'/\Rep w0 X C0 A' s w):VCode P n c A g:=by
 refine VCode.mk λw0 X C0 s w l=>?_;have i:=h.run w0 X C0 s w l;unfold EvCode at i ⊢;intro a m;refine Go.wp_mono (i a m) λe u w' p=>?_;obtain⟨s',b,r,A',t,d⟩:=p;exact⟨s',b,r,j e A' _ _ _ _ _ t d⟩
theorem yR(h:aS P τ){a b:Code}{σ:Type}(I:σ ->AS)(M:σ ->Prop)(h1:vx P τ n a A (gp (λA'=>∃x f,M x/\Le f A' (I x)) K))(h2:∀x,M x ->VCode P n b (I x) K):VCode P n (.seq a b) A K:=by
 refine VCode.seq ((o5 h h1).mono λe A w0 X C0 s w d g=>?_);cases e with
 |normal=>
  obtain⟨x,f,i,j⟩:=d;exact⟨I x,h2 x i,g.le j⟩
 |exit id=>exact⟨A,d,g⟩
 |goto l=>exact⟨A,d,g⟩
 |ret=>exact⟨A,d,g⟩
 |panic m=>exact⟨A,d,g⟩
 |outgrown=>exact⟨A,d,g⟩
theorem JL(h:aS P τ){a b c:Code}{σ:Type}(I:σ ->AS)(M:σ ->Prop)(h1:vx P τ n (.seq a b) A (gp (λA'=>∃x f,M x/\Le f A' (I x)) K))(h2:∀x,M x ->VCode P n c (I x) K):VCode P n (.seq a (.seq b c)) A K:=by
 have h1:vx P τ n a A (gp (λA'=>vx P τ n b A' (gp (λA'=>∃x f,M x/\Le f A' (I x)) K)) (gp (λA'=>∃x f,M x/\Le f A' (I x)) K)):=h1;refine VCode.seq ((o5 h h1).mono λe A w0 X C0 s w d g=>?_);cases e with
 |normal=>exact⟨A,yR h I M d h2,g⟩
 |exit id=>exact⟨A,d,g⟩
 |goto l=>exact⟨A,d,g⟩
 |ret=>exact⟨A,d,g⟩
 |panic i=>exact⟨A,d,g⟩
 |outgrown=>exact⟨A,d,g⟩
theorem yS(t:aS P τ){c:Code}{σ:Type}(I:σ ->AS)(M:σ ->Prop)(μ:σ ->Nat)(x0:σ)(f:Nat ->Nat)(u:Le f A (I x0))(v:M x0)
  (cf:∀x,M x ->VCode P n c (I x) (gp (λA'=>∃y f,μ y<μ x/\M y/\Le f A' (I y)) K)):VCode P n (.loop c) A K:=by
 refine VCode.mk λw0 X C0 s w D=>?_;unfold EvCode;intro a E;refine wp_loop_ghost (λy a w=>M y/\∃s',Fr n a s'/\s'.d=s.d/\Rep w0 X C0 (I y) s' w) μ x0 ⟨v,s,E,rfl,D.le u⟩ ?_;rintro y a w ⟨F,s',p,j,r⟩;have:=cf y F
 replace this:=this.go
 have:=this w0 X C0 s' w r;unfold EvCode at this;refine Go.wp_mono (this a p) λe Q w' H=>?_;obtain⟨i,b,d,A',m,h⟩:=H;cases e with
 |normal=>
  obtain⟨z,g,L,N,O⟩:=m;exact⟨z,⟨N,i,b,d.trans j,h.le O⟩,L⟩
 |exit id=>exact⟨i,b,d.trans j,A',m,h⟩
 |goto l=>exact⟨i,b,d.trans j,A',m,h⟩
 |ret=>exact⟨i,b,d.trans j,A',m,h⟩
 |panic R=>exact⟨i,b,d.trans j,A',m,h⟩
 |outgrown=>exact⟨i,b,d.trans j,A',m,h⟩
end
end Go.Wx
