import Derived.Test.YtdfeclpphaccnaaGreatMk03
import Derived.Test.YtdfeclpphaccnaaGreatProg
import Derived.KernelRfl
import Derived.Recover
set_option linter.all false
set_option maxHeartbeats 4000000
open Go.Proofs Go.Proofs.Tryz Go Go.Wx
namespace Go.Wx
abbrev vI(n:Int):AV:=.c (.p (.int .i64 n))
abbrev vP(x:PV):AV:=.c (.p x)
abbrev pI(n:Int):PV:=.int .i64 n
theorem vi{r:Int}{k:Int ->Prop}(a:k r)(h1:-9223372036854775808<=r:=by first|omega|(simp only;omega))(h2:r<=9223372036854775807:=by first|omega|(simp only;omega)):nD .i64 r k:=gz h1 h2 a
theorem aE{τ:Tau}{A:AS}{rs:List ResultVar}{r:PV}{a:List AV}{ps:List PV}(h1:dR τ A rs=some a:=by exact rfl)(h2:cL A a=some ps:=by exact rfl)(h3:fY' ps=r:=by exact rfl):∃a ps,dR τ A rs=some a/\cL A a=some ps/\fY' ps=r:=⟨a,ps,h1,h2,h3⟩
theorem eP9{τ:Tau}{A:AS}{rs:List ResultVar}{r:PV}{T:Nat}{cs:List PV}{a:List AV}{ps:List PV}{ds:List AC}(h1:dR τ A rs=some a:=by exact rfl)(h2:cL A a=some ps:=by exact rfl)(h3:fY' ps=r:=by exact rfl)(h4:look A.m 0=some (.st 1 T ds):=by exact rfl)(b:jc ds=some cs:=by exact rfl):∃a ps ds,dR τ A rs=some a/\cL A a=some ps/\fY' ps=r/\look A.m 0=some (.st 1 T ds)/\jc ds=some cs:=⟨a,ps,ds,h1,h2,h3,h4,b⟩
theorem kA9{all:List Oper}{es:List En}{τ:Tau}{A:AS}{rs:List ResultVar}{r:PV}{a:List AV}{ps:List PV}(h1:dR τ A rs=some a:=by exact rfl)(h2:cL A a=some ps:=by exact rfl)(h3:fY' ps=r:=by exact rfl)(h:jU all es.reverse [] []=true:=by kernel_rfl):mH all es (∃a ps,dR τ A rs=some a/\cL A a=some ps/\fY' ps=r):=pO h ⟨a,ps,h1,h2,h3⟩
theorem kP9{all:List Oper}{es:List En}{τ:Tau}{A:AS}{rs:List ResultVar}{r:PV}{T:Nat}{cs:List PV}{a:List AV}{ps:List PV}{ds:List AC}(h1:dR τ A rs=some a:=by exact rfl)(h2:cL A a=some ps:=by exact rfl)(h3:fY' ps=r:=by exact rfl)(h4:look A.m 0=some (.st 1 T ds):=by exact rfl)(b:jc ds=some cs:=by exact rfl)(h:jU all es.reverse [] []=true:=by kernel_rfl):mH all es (∃a ps ds,dR τ A rs=some a/\cL A a=some ps/\fY' ps=r/\look A.m 0=some (.st 1 T ds)/\jc ds=some cs):=pO h ⟨a,ps,ds,h1,h2,h3,h4,b⟩
theorem db{τ:Tau}{rs:List ResultVar}{p:PV}{m':List (Nat×SE)}{A:AS}{bs:List AV}{ps:List PV}(h1:dR τ A rs=some bs:=by exact rfl)(h2:cL A bs=some ps:=by exact rfl)(h3:fY' ps=p:=by exact rfl)(hm:kD id (A.upd [] (bK A (refsA bs))) m':=by repeat first|exact True.intro|refine And.intro rfl ?_)(hi:cX id (keysOf m')=true:=by exact rfl):pQ τ rs (.c (.p p)) m' A:=.inl ⟨bs,ps,p,id,rfl,h1,h2,h3,hm,hi⟩
theorem eI9{τ:Tau}{A:AS}{rs:List ResultVar}{a b:Int}{d:List AV}{ps:List PV}(h:a=b)(h1:dR τ A rs=some d:=by exact rfl)(h2:cL A d=some ps:=by exact rfl)(h3:fY' ps= .int .i64 a:=by exact rfl):∃d ps,dR τ A rs=some d/\cL A d=some ps/\fY' ps= .int .i64 b:=⟨d,ps,h1,h2,h▸h3⟩
theorem vy{p:Prop} [Decidable p]{k:Bool ->Prop}(a:k true)(h:p:=by omega):gy p k:=tS h a
theorem vn{p:Prop} [Decidable p]{k:Bool ->Prop}(a:k false)(h:¬ p:=by omega):gy p k:=mu h a
theorem vk{all:List Oper}{es:List En}{k:Prop}(a:k)(h:jU all es.reverse [] []=true:=by kernel_rfl):mH all es k:=pO h a
theorem vN(n c:Int){k:Bool ->Prop}(a:k false)(h:¬ n=c:=by omega):gy (n=c) k:=mu h a
theorem vY(n c:Int){k:Bool ->Prop}(a:k true)(h:n=c:=by omega):gy (n=c) k:=tS h a
theorem v0{k:Bool ->Prop}(a:k false):gy ((0:Int)≠0) k:=mu (λh=>h rfl) a
theorem vz{k:Bool ->Prop}(a:k true):gy ((0:Int)=0) k:=tS rfl a
theorem vE{e:Int}(h:e≠0){k:Bool ->Prop}(a:k true):gy (e≠0) k:=tS h a
theorem vF{e:Int}(h:e≠0){k:Bool ->Prop}(a:k false):gy (e=0) k:=mu h a
theorem gj{all:List Oper}{es:List En}{k:List Oper ->Prop}(a:k (pP ((all.drop es.length).map λ_=>true) (all.drop es.length)))(h:(kC (es.length-1) all []).drop es.length=pP ((all.drop es.length).map λ_=>true) (all.drop es.length):=by kernel_rfl):yH all es k:=rU _ a h
theorem pR{P:Program}{T:Nat}{j:IntKind}{e:Int}{k:Prop}(h:∀w,(Instr.makeInterface T (.agg #[.int j e])).run P w= .ok (.iface T (.agg #[.int j e])) w)(a:k):rJ P T j e k:=⟨h,a⟩
theorem au{α β:Type}(f:α ->β)(l:List α):(l.map f).length=l.length:=KF _
theorem vm{α:Type}{p:α ->List PV}{l:List α}{sz:Nat}{i:Int}{k:Nat ->List PV ->Prop}(j:Nat){x:α}(a:l[j]?=some x)(b:k j (p x))(hi:i=(j:Int):=by first|rfl|omega)(hsz:(p x).length=sz:=by rfl):kw (l.map p) sz i k:=
 oI j (p x) hi (by rw[JX,a];rfl) hsz b
theorem va{α:Type}{p:α ->List PV}{l:List α}{sz bs m:Nat}{k:Prop}(a:k)(b:∀x∈l,(p x).length=sz/\∀q∈p x,q.one=true)(hb:m+l.length<=1000000000:=by first|omega|(simp[dM];omega))(d:bs<=1000:=by decide):ru sz bs m (l.map p) k:=by
 have g:(m+l.length)*bs<=1000000000*1000:=Nat.mul_le_mul hb d;refine⟨?_⟩;rw[KF];refine⟨Uo,KQ hb UO,λy e=>?_,a⟩;obtain⟨x,f,rfl⟩:=List.mem_map.1 e;exact b x f
theorem Jr{l:List (List PV)}{m:Int}{k:Nat ->Prop}(i:Nat)(a:k i)(hm:m=(i:Int):=by first|rfl|omega)(b:0<i:=by omega)(h1:i<=100:=by omega)(hl:l.length<=1000000:=by first|omega|(simp;omega)):rx l m k:=⟨i,hm,b,h1,hl,a⟩
theorem be{y:List PV}{sz bs m:Nat}{k:Prop}(a:k)(hl:y.length=sz:=by rfl)(b:y.all PV.one=true:=by rfl)(hb:m+1<=1000000000:=by first|omega|(simp[dM];omega))(d:bs<=1000:=by decide):ru sz bs m [y] k:=by
 have g:(m+1)*bs<=1000000000*1000:=Nat.mul_le_mul hb d;refine⟨by simpa using Uo,KQ hb UO,λz e=>?_,a⟩;obtain rfl:z=y:=by simpa using e
 exact⟨hl,λq f=>List.all_eq_true.1 b q f⟩
theorem bH{lo hi:Option Int}{l:List (List PV)}{sz:Nat}{k:Nat ->Nat ->Prop}(p q:Nat)(a:k p q)(hsz:∀x∈l,x.length=sz)(h1:match lo with
 |some x=>x=(p:Int)
 |none=>p=0:=by first|rfl|omega) (h2:match hi with
 |some x=>x=(q:Int)
 |none=>q=l.length:=by first|rfl|omega) (h3:p<=q:=by first|omega|(simp;omega)) (h4:q<=l.length:=by first|omega|(simp;omega)):uc lo hi l sz k:=⟨p,q,h1,h2,h3,h4,hsz,a⟩
section
variable{P:Program}{τ:Tau}{n:Nat}{A B:AS}{c:Code}{K:Exit ->AS ->Prop}
theorem vf {f : FuncId} {fn : Func} {ps : List PV} {r : PV} (n : Nat) (rs : List ResultVar) (a : aS P τ) (g : P.funcs[f]? = some fn) (h : vx P τ n c ⟨qo' ps 0, []⟩ (rX τ rs r)) (hb : fn.body = some c := by rfl) (i : fn.ntmps = n := by rfl) (b : fn.results.toList = rs := by rfl) (d : ps.length <= n := by exact QX rfl) (e : (fn.name == "runtime.NumGoroutine") = false := by decide) : VC P f ps r := r7 n rs a g hb i b d e h
theorem cR {f : FuncId} {fn : Func} {ps : List PV} {r : PV} (n : Nat) (rs : List ResultVar) (a : aS P τ) (g : P.funcs[f]? = some fn) (h : VCode P n c ⟨qo' ps 0, []⟩ (rX τ rs r)) (hb : fn.body = some c := by rfl) (i : fn.ntmps = n := by rfl) (b : fn.results.toList = rs := by rfl) (d : ps.length <= n := by exact QX rfl) (e : (fn.name == "runtime.NumGoroutine") = false := by decide) : VC P f ps r := uA n rs a g hb i b d e h
theorem nJ {f : FuncId} {fn : Func} {ps : List PV} {e sz : Nat} {l : List (List PV)} (n : Nat) (rs : List ResultVar) (a : aS P τ) (i : P.funcs[f]? = some fn) (h : VCode P n c ⟨qo' ps 0, []⟩ (Ds τ rs e sz l)) (hb : fn.body = some c := by rfl) (j : fn.ntmps = n := by rfl) (b : fn.results.toList = rs := by rfl) (d : ps.length <= n := by exact QX rfl) (g : (fn.name == "runtime.NumGoroutine") = false := by decide) : VO P f ps e sz l := Jl n rs a i hb j b d g h
theorem cz {f : FuncId} {fn : Func} {aes : List AV} {m : List (Nat × SE)} {r : Except (List PanicEntry) (AV × List (Nat × SE))} (n : Nat) (rs : List ResultVar) (a : aS P τ) (g : P.funcs[f]? = some fn) (h : VCode P n c ⟨iT' aes 0, m⟩ (rY τ rs r)) (hb : fn.body = some c := by rfl) (i : fn.ntmps = n := by rfl) (b : fn.results.toList = rs := by rfl) (d : aes.length <= n := by exact QX rfl) (e : (fn.name == "runtime.NumGoroutine") = false := by decide) : VG P f aes m r := oV n rs a g hb i b d e h
theorem Js {f : FuncId} {fn : Func} {ps : List PV} {T : Nat} {cs : List PV} (n : Nat) (rs : List ResultVar) (a : aS P τ) (g : P.funcs[f]? = some fn) (h : VCode P n c ⟨qo' ps 0, []⟩ (Dt τ rs T cs)) (hb : fn.body = some c := by rfl) (i : fn.ntmps = n := by rfl) (b : fn.results.toList = rs := by rfl) (d : ps.length <= n := by exact QX rfl) (e : (fn.name == "runtime.NumGoroutine") = false := by decide) : VN P f ps T cs := Jm n rs a g hb i b d e h
theorem nK {f : FuncId} {fn : Func} {ps : List PV} {r : Except (List PanicEntry) PV} (n : Nat) (rs : List ResultVar) (a : aS P τ) (g : P.funcs[f]? = some fn) (h : VCode P n c ⟨qo' ps 0, []⟩ (Du τ rs r)) (hb : fn.body = some c := by rfl) (i : fn.ntmps = n := by rfl) (b : fn.results.toList = rs := by rfl) (d : ps.length <= n := by exact QX rfl) (e : (fn.name == "runtime.NumGoroutine") = false := by decide) : VX P f ps r := Jn n rs a g hb i b d e h
theorem aQ {f : FuncId} {fn : Func} {T : Nat} {cs ps : List PV} {r : Except (List PanicEntry) (List PV × PV)} (n : Nat) (rs : List ResultVar) (a : aS P τ) (g : P.funcs[f]? = some fn) (h : VCode P n c ⟨(0, .c (.ptr 0 0)) :: qo' ps 1, [(0, .st 1 T (cs.map .p))]⟩ (rZ τ rs T r)) (hb : fn.body = some c := by rfl) (i : fn.ntmps = n := by rfl) (b : fn.results.toList = rs := by rfl) (d : ps.length + 1 <= n := by exact QX rfl) (e : (fn.name == "runtime.NumGoroutine") = false := by decide) : eH P f T cs ps r := Jo n rs a g hb i b d e h
def pS(f:Nat ->Nat)(A l:List (Nat×AV)):Prop:=List.rec (motive:=λ_=>Prop) True (λp _ ih=>(look A p.1=some p.2/\p.2.ren f=p.2)/\ih) l
def r8(f:Nat ->Nat)(A l:List (Nat×SE)):Prop:=List.rec (motive:=λ_=>Prop) True (λp _ ih=>(look A p.1=some p.2/\(f p.1=p.1/\p.2.ren f=p.2))/\ih) l
def sa(f:Nat ->Nat)(A l:List (Nat×AV)):Prop:=List.rec (motive:=λ_=>Prop) True (λp _ ih=>look A p.1=some (p.2.ren f)/\ih) l
def uB(f:Nat ->Nat)(A l:List (Nat×SE)):Prop:=List.rec (motive:=λ_=>Prop) True (λp _ ih=>look A (f p.1)=some (p.2.ren f)/\ih) l
structure LeQ(f:Nat ->Nat)(A:AS)(ch ce:List (Nat×AV))(bl cm:List (Nat×SE)):Prop where
 c:pS f A.e ce
 d:r8 f A.m cm
 x:sa f A.e ch
 y:uB f A.m bl
 i:cX f (keysOf (bl++cm))=true
theorem Jt{f:Nat ->Nat}{A:AS}{l r:List (Nat×AV)}(h1:sa f A.e l)(h2:rW f A r):rW f A (l++r):=by
 induction l with
 |nil=>exact h2
 |cons p l a=>exact⟨h1.1,a h1.2⟩
theorem Ju{f:Nat ->Nat}{A:AS}{l:List (Nat×AV)}(h1:pS f A.e l):rW f A l:=by
 induction l with
 |nil=>exact VQ
 |cons p l a=>exact⟨by rw[h1.1.2];exact h1.1.1,a h1.2⟩
theorem Jv{f:Nat ->Nat}{A:AS}{l r:List (Nat×SE)}(h1:uB f A.m l)(h2:kD f A r):kD f A (l++r):=by
 induction l with
 |nil=>exact h2
 |cons p l a=>exact⟨h1.1,a h1.2⟩
theorem Jw{f:Nat ->Nat}{A:AS}{l:List (Nat×SE)}(h1:r8 f A.m l):kD f A l:=by
 induction l with
 |nil=>exact VQ
 |cons p l a=>exact⟨by rw[h1.1.2.1,h1.1.2.2];exact h1.1.1,a h1.2⟩
theorem LeQ.le{f:Nat ->Nat}{ch ce:List (Nat×AV)}{bl a:List (Nat×SE)}(h:LeQ f A ch ce bl a):Le f A ⟨ch++ce,bl++a⟩:=ik (Jt h.x (Ju h.c)) (Jv h.y (Jw h.d)) h.i
structure pT(σ:Type)(ch:σ ->List (Nat×AV))(bl:σ ->List (Nat×SE))(ce:List (Nat×AV))(cm:List (Nat×SE))(M:σ ->Prop)(m:σ ->Prop)(A:AS):Prop where
 go:∃y f,m y/\M y/\LeQ f A (ch y) ce (bl y) cm
theorem aw{σ:Type}{ch:σ ->List (Nat×AV)}{bl:σ ->List (Nat×SE)}{ce:List (Nat×AV)}{a:List (Nat×SE)}{M m:σ ->Prop}(y:σ)(h:M y)(f:Nat ->Nat:=id)(hm:m y:=by first|exact VQ|(show _<_;omega))(c:pS f A.e ce:=by repeat first|exact VQ|refine And.intro ⟨rfl,rfl⟩ ?_)(d:r8 f A.m a:=by repeat first|exact VQ|refine And.intro ⟨rfl,rfl,rfl⟩ ?_)(x:sa f A.e (ch y):=by repeat first|exact VQ|refine And.intro rfl ?_)(y':uB f A.m (bl y):=by repeat first|exact VQ|refine And.intro rfl ?_|refine And.intro (KG (λl=>some (SE.rw _ _ l)) (by first|(simp;done)|(simp[dM];rfl))) ?_)(i:cX f (keysOf (bl y++a))=true:=by rfl):pT σ ch bl ce a M m A:=⟨y,f,hm,h,c,d,x,y',i⟩
theorem aB(b:aS P τ){σ:Type}(ce:List (Nat×AV))(a:List (Nat×SE))(ch:σ ->List (Nat×AV))(bl:σ ->List (Nat×SE))(M:σ ->Prop)(μ:σ ->Nat)(x0:σ)(i:M x0)(cg:∀x,M x ->VCode P n c ⟨ch x++ce,bl x++a⟩ (gh (pT σ ch bl ce a M λy=>μ y<μ x) K))(f:Nat ->Nat:=id)
  (c1:pS f A.e ce:=by repeat first|exact VQ|refine And.intro ⟨rfl,rfl⟩ ?_) (d1:r8 f A.m a:=by repeat first|exact VQ|refine And.intro ⟨rfl,rfl,rfl⟩ ?_) (x1:sa f A.e (ch x0):=by repeat first|exact VQ|refine And.intro rfl ?_) (y1:uB f A.m (bl x0):=by repeat first|exact VQ|refine And.intro rfl ?_) (j:cX f (keysOf (bl x0++a))=true:=by rfl):VCode P n (.loop c) A K:=
 yO b (λx=>⟨ch x++ce,bl x++a⟩) M μ x0 f (LeQ.le ⟨c1,d1,x1,y1,j⟩) i λx k=>(cg x k).mono λe A p X q s w d g=>by
  cases e with
  |normal=>
   obtain⟨y,f,l,m,o⟩:=(show pT σ ch bl ce a M (λy=>μ y<μ x) A from d).go;exact⟨A,⟨y,f,l,m,o.le⟩,g⟩
  |_=>exact⟨A,d,g⟩
theorem vl(a:aS P τ){σ:Type}(ce:List (Nat×AV))(ch:σ ->List (Nat×AV))(M:σ ->Prop)(μ:σ ->Nat)(x0:σ)(b:M x0)(cg:∀x,M x ->vx P τ n c ⟨ch x++ce,[]++[]⟩ (gh (pT σ ch (λ_=>[]) ce [] M λy=>μ y<μ x) K))
  (c1:pS id A.e ce:=by repeat first|exact VQ|refine And.intro ⟨rfl,rfl⟩ ?_) (x1:sa id A.e (ch x0):=by repeat first|exact VQ|refine And.intro rfl ?_):VCode P n (.loop c) A K:=
 aB a ce [] ch (λ_=>[]) M μ x0 b (λx d=>oU a (cg x d)) id c1 VQ x1 VQ rfl
theorem VCode.blk{id:Nat}{x:Code}(h:VCode P n x A (rV id K)):VCode P n (.block id x) A K:=by
 refine VCode.mk λp X q s w r=>?_;have o:=h.run p X q s w r;unfold EvCode at o ⊢;intro a t;refine wp_block (Go.wp_mono (o a t) λe y z u=>?_);obtain⟨g,b,i,k,f,d⟩:=u;cases e with
 |normal=>exact⟨g,b,i,k,f,d⟩
 |exit j=>
  simp only[Exit.inBlock];simp only[rV]at f
  by_cases m:j=id
  ·subst m
   rw[KX rfl];rw[Nat.beq_refl]at f;exact⟨g,b,i,k,f,d⟩
  ·rw[KY m]
   have:Nat.beq j id=false:=by
    cases v:Nat.beq j id with
    |true=>exact absurd (QJ v) m
    |false=>rfl
   rw[this]at f;exact⟨g,b,i,k,f,d⟩
 |goto l=>exact⟨g,b,i,k,f,d⟩
 |ret=>exact⟨g,b,i,k,f,d⟩
 |panic D=>exact⟨g,b,i,k,f,d⟩
 |outgrown=>exact⟨g,b,i,k,f,d⟩
theorem Jx(d:aS P τ){a b:Code}(h:vx P τ n a A (gh (λe=>VCode P n b e K) K)):VCode P n (.seq a b) A K:=VCode.seq (oU d h)
theorem dY(j:aS P τ){a b:Code}{σ:Type}(ce:List (Nat×AV))(i:List (Nat×SE))(ch:σ ->List (Nat×AV))(bl:σ ->List (Nat×SE))(M:σ ->Prop)(h1:vx P τ n a A (gh (pT σ ch bl ce i M λ_=>True) K))(h2:∀x,M x ->VCode P n b ⟨ch x++ce,bl x++i⟩ K)
  (c1:pS id A.e ce:=by repeat first|exact VQ|refine And.intro ⟨rfl,rfl⟩ ?_) (d1:r8 id A.m i:=by repeat first|exact VQ|refine And.intro ⟨rfl,rfl,rfl⟩ ?_):VCode P n (.seq a b) A K:=by
 refine VCode.seq ((oU j h1).mono λe A o X p s w d g=>?_);cases e with
 |normal=>
  obtain⟨x,f,_,k,m⟩:=(show pT σ ch bl ce i M (λ_=>True) A from d).go;exact⟨_,h2 x k,g.le m.le⟩
 |exit id=>exact⟨A,d,g⟩
 |goto l=>exact⟨A,d,g⟩
 |ret=>exact⟨A,d,g⟩
 |panic ch=>exact⟨A,d,g⟩
 |outgrown=>exact⟨A,d,g⟩
end
section
variable{P:Program}{τ:Tau}{n:Nat}{A:AS}{K:Exit ->AS ->Prop}{c:Code}
theorem mI(t k:Nat){e sz:Nat}{l:List (List PV)}(h:VCode P n c ((A.upd [] (bK A [k])).upd [(t,.c (.p (.sl l)))] []) K)(g:look A.e t=some (.c (.row k)):=by rfl)(d:look A.m k=some (.rw e sz l):=by rfl):VCode P n c A K:=by
 refine h.of λz X D s w ⟨C,ρ,f⟩=>?_;obtain⟨v,i,a⟩:=f.slot t _ g (λj m=>⟨.rw e sz l,by
  have o:j=k:=by simpa[AV.refs,AC.refs]using m
  subst o;exact d,rfl⟩)
 obtain⟨q,r,E,u⟩:=f.frz [k] λ_ _=>rfl;have x:=u k Ud l (.inl ⟨e,sz,d⟩);have a:v=ρ k:=a;subst a;refine⟨q,ρ,r.slots (wr:=[(t,.c (.p (.sl l)))]) (λF b y _=>?_) λ_ _=>rfl⟩;obtain⟨rfl,rfl⟩:=bJ y;exact⟨_,i,x⟩
theorem uC(j i k:Nat){e sz T:Nat}{g:Nat}{cs:List AC}{l:List (List PV)}(h:VCode P n c ((A.upd [] (bK A [k])).upd [] [(j,.st g T (cs.set i (.p (.sl l))))]) K)(H:look A.m j=some (.st g T cs):=by rfl)(hi:cs[i]?=some (.row k):=by rfl)(v:look A.m k=some (.rw e sz l):=by rfl)(o:k≠j:=by decide):VCode P n c A K:=by
 refine h.of λw0 X C0 s w ⟨C,ρ,I⟩=>?_;obtain⟨L,y,h2,M⟩:=I.frz [k] λ_ _=>rfl;have N:=M k Ud l (.inl ⟨e,sz,v⟩);have f:look (A.upd [] (bK A [k])).m j=some (.st g T cs):=by
  show look (bK A [k]++A.m) j=_;rw[rm]
  ·exact H
  ·cases O:look (bK A [k]) j with
   |none=>rfl
   |some x=>
    obtain⟨R,_⟩:=lq O;exact absurd (by simpa using R) (Ne.symm o)
 obtain⟨b,V,W,Y,g3,Z,D⟩:=y.ent j _ f;have r:Lv (A.upd [] (bK A [k])) (AC.row k).refs:=λz hz=>by
  have ez:z=k:=by simpa[AC.refs]using hz
  subst ez;exact⟨.fz l,by
   show look (bK A [z]++A.m) z=_;rw[ln,xQ Ud v],rfl⟩
 exact⟨L,_,y.modSt (wr:=[]) (cs':=cs.set i (.p (.sl l))) (us':=V) f W ((Kp.refl [] w).weak Ud) Y (by simpa using Z) (λq c u d E=>by
  rw[List.getElem?_set]at d
  by_cases F:i=q
  ·subst F
   simp only[if_true]at d;split at d
   ·obtain rfl:=JB d
    obtain⟨o1,o2⟩:=D i _ u hi E;refine⟨o1,λ_=>?_⟩;have hr:u=ρ k:=o2 r;rw[hr];exact N
   ·cases d
  ·rw[KY F]at d
   exact D q c u d E) (s':=s) (λt a ha=>by cases ha) (λ_ _=>rfl)⟩
end
end Go.Wx
namespace Cd
structure Nd where
 op:Int
 a:Int
 b:Int
def rNd:Rd Nd where
 sz:=3
 den C cs x:=cs=[iV x.op,iV x.a,iV x.b]/\I64 x.op/\I64 x.a/\I64 x.b
 len:=by rintro C cs x ⟨rfl,_⟩;rfl
 mono:=by rintro C C' cs x hc h;exact h
 one:=by rintro C cs x ⟨rfl,_⟩ u hu;simp at hu;rcases hu with rfl|rfl|rfl<;>rfl
def io{α:Type}(R:Rd α):Rd (List α) where
 sz:=1
 den C cs l:=∃a cap,cs=[.slice a l.length cap]/\l.length<=cap/\Sl R C a l
 len:=by rintro C cs x ⟨a,cap,rfl,_⟩;rfl
 mono:=by rintro C C' cs x hc ⟨a,cap,rfl,h',h⟩;exact⟨a,cap,rfl,h',h.mono hc⟩
 one:=by rintro C cs x ⟨a,cap,rfl,_⟩ u hu;simp at hu;subst hu;rfl
inductive Tr where
 |mk (n:Nd) (ks:List Tr)
def Tr.n:Tr ->Nd
 | .mk n _=>n
def Tr.ks:Tr ->List Tr
 | .mk _ ks=>ks
mutual
def row:Tr ->List Nd
 | .mk n ks=>n::rows ks
def rows:List Tr ->List Nd
 |[]=>[]
 |x::r=>row x++rows r
end
theorem bg(x:Tr):0<(row x).length:=by
 cases x;simp[row]
theorem bT':∀(l m:List Tr),rows (l++m)=rows l++rows m
 |[],m=>rfl
 |x::r,m=>by simp[rows,bT' r m]
section
variable{σ:Type}(cnt:σ ->Nd ->Option Nat)(nx:σ ->Nd ->Nat ->σ)
def kidsL(p:σ ->List Nd ->Option (Tr×List Nd))(g:Nat ->σ):Nat ->Nat ->List Nd ->Option (List Tr×List Nd)
 |_,0,r=>some ([],r)
 |k,c+1,r=>match p (g k) r with
  |none=>none
  |some (x,r')=>match kidsL p g (k+1) c r' with
   |none=>none
   |some (xs,r'')=>some (x::xs,r'')
def parse:Nat ->σ ->List Nd ->Option (Tr×List Nd)
 |0,_,_=>none
 |_+1,_,[]=>none
 |f+1,s,n::r=>match cnt s n with
  |none=>none
  |some c=>match kidsL (parse f) (nx s n) 0 c r with
   |none=>none
   |some (ks,r')=>some (.mk n ks,r')
mutual
def okT:Tr ->σ ->Prop
 | .mk n ks,s=>cnt s n=some ks.length/\bC ks n s 0
def bC:List Tr ->Nd ->σ ->Nat ->Prop
 |[],_,_,_=>True
 |x::r,n,s,k=>okT x (nx s n k)/\bC r n s (k+1)
end
variable{cnt nx}
theorem Dv{p:σ ->List Nd ->Option (Tr×List Nd)}{n:Nd}{s:σ}(d:∀s t x r,p s t=some (x,r) ->t=row x++r/\okT cnt nx x s):∀(c k:Nat) (t:List Nd) (ks:List Tr) (r:List Nd),kidsL p (nx s n) k c t=some (ks,r) ->t=rows ks++r/\ks.length=c/\bC cnt nx ks n s k
 |0,k,t,ks,r,h=>by
  simp only[kidsL,QZ,Prod.mk.injEq]at h;obtain⟨rfl,rfl⟩:=h;exact⟨rfl,rfl,trivial⟩
 |c+1,k,t,ks,r,h=>by
  simp only[kidsL]at h;split at h
  ·cases h
  rename_i x e f;split at h
  ·cases h
  rename_i g a b;simp only[QZ,Prod.mk.injEq]at h;obtain⟨rfl,rfl⟩:=h;obtain⟨i,j⟩:=d _ _ _ _ f;obtain⟨l,m,o⟩:=Dv d c (k+1) e g a b;exact⟨by rw[i,l];simp[rows],by simp[m],j,o⟩
theorem cT':∀(f:Nat) (s:σ) (t:List Nd) (x:Tr) (r:List Nd),parse cnt nx f s t=some (x,r) ->t=row x++r/\okT cnt nx x s
 |0,s,t,x,r,h=>by simp[parse]at h
 |f+1,s,[],x,r,h=>by simp[parse]at h
 |f+1,s,n::t,x,r,h=>by
  simp only[parse]at h;split at h
  ·cases h
  rename_i c hc;split at h
  ·cases h
  rename_i ks a b;simp only[QZ,Prod.mk.injEq]at h;obtain⟨rfl,rfl⟩:=h;obtain⟨d,e,g⟩:=Dv (cT' f) c 0 t ks a b;exact⟨by rw[d];simp[row],by rw[hc,e],g⟩
mutual
theorem fF':∀(x:Tr) (f:Nat) (s:σ) (r:List Nd),(row x).length<=f ->okT cnt nx x s ->parse cnt nx f s (row x++r)=some (x,r)
 | .mk n ks,0,s,r,a,_=>by simp[row]at a
 | .mk n ks,f+1,s,r,a,h=>by
  obtain⟨h1,h2⟩:=h;have:=qq' ks f n s 0 r (by simpa[row]using a) h2;simp only[row,List.cons_append,parse,h1,this]
theorem qq':∀(ks:List Tr) (f:Nat) (n:Nd) (s:σ) (k:Nat) (r:List Nd),(rows ks).length<=f ->bC cnt nx ks n s k ->kidsL (parse cnt nx f) (nx s n) k ks.length (rows ks++r)=some (ks,r)
 |[],f,n,s,k,r,_,_=>rfl
 |x::l,f,n,s,k,r,a,h=>by
  obtain⟨h1,h2⟩:=h;simp only[rows,JK]at a;have b:=fF' x f (nx s n k) (rows l++r) Uo h1;have d:=qq' l f n s (k+1) r Uo h2;simp only[rows,List.append_assoc,JV,kidsL,b,d]
end
theorem uD{f:Nat}{s:σ}{t:List Nd}{x:Tr}{r:List Nd}(h:parse cnt nx f s t=some (x,r)):t.length=(row x).length+r.length:=by
 rw[(cT' f s t x r h).1,JK]
theorem Dw{f g:Nat}{s:σ}{t:List Nd}(d:t.length<=f)(e:t.length<=g):parse cnt nx f s t=parse cnt nx g s t:=by
 cases h:parse cnt nx f s t with
 |some p=>
  obtain⟨x,r⟩:=p;obtain⟨a,b⟩:=cT' _ _ _ _ _ h;subst a;exact(fF' x g s r (by simp at e;omega) b).symm
 |none=>
  cases i:parse cnt nx g s t with
  |none=>rfl
  |some p=>
   obtain⟨x,r⟩:=p;obtain⟨a,b⟩:=cT' _ _ _ _ _ i;subst a;rw[fF' x f s r (by simp at d;omega) b]at h;cases h
theorem Jy{f:Nat}{s:σ}{t:List Nd}{a:Nat}(ha:a<=t.length){x:Tr}{r:List Nd}(h:parse cnt nx f s (t.drop a)=some (x,r)):r=t.drop (t.length-r.length)/\a<t.length-r.length/\r.length<=t.length/\(row x).length=t.length-r.length-a:=by
 obtain⟨b,_⟩:=cT' _ _ _ _ _ h;have d:=uD h;have g:=bg x;rw[VK]at d;refine⟨?_,Uo,Uo,Uo⟩;have e:t.length-r.length=a+(row x).length:=Uo
 rw[e,<- List.drop_drop,b,List.drop_left]
def pU(s:σ)(t:List Nd):Option Tr:=match parse cnt nx t.length s t with
 |some (x,[])=>some x
 |_=>none
theorem Jz{s:σ}{t:List Nd}{x:Tr}(h:pU (cnt:=cnt) (nx:=nx) s t=some x):t=row x/\okT cnt nx x s:=by
 unfold pU at h;split at h
 ·rename_i y a
  obtain rfl:=JB h;obtain⟨b,d⟩:=cT' _ _ _ _ _ a;exact⟨by rw[b];simp,d⟩
 ·cases h
theorem JA{s:σ}{x:Tr}(h:okT cnt nx x s):pU (cnt:=cnt) (nx:=nx) s (row x)=some x:=by
 unfold pU;have:=fF' x (row x).length s [] (KJ _) h;rw[JD]at this;rw[this]
end
mutual
def tA':Tr ->Nat
 | .mk _ ks=>1+kU' ks
def kU':List Tr ->Nat
 |[]=>0
 |x::r=>tA' x+kU' r
end
mutual
theorem AE':∀x:Tr,(row x).length=tA' x
 | .mk n ks=>by rw[row,tA',JV,rows_len ks];omega
theorem rows_len:∀l:List Tr,(rows l).length=kU' l
 |[]=>rfl
 |x::r=>by rw[rows,kU',JK,AE' x,rows_len r]
end
theorem JC(x:Tr):0<tA' x:=by
 cases x;simp only[tA'];omega
theorem kV':∀l:List Tr,l.length<=kU' l
 |[]=>KJ _
 |x::r=>by
  have:=kV' r;have:=JC x;simp only[kU',JV];omega
end Cd
namespace Tm
open Cd
inductive Md where
 |tm|fn|am
def aX(x lo hi:Int):Bool:=decide (lo<=x) && decide (x<=hi)
theorem dD{x lo hi:Int}:aX x lo hi=true↔lo<=x/\x<=hi:=by simp[aX]
def aF(n:Nd):Bool:=
 if n.op=1 then aX n.a 0 1048576 && decide (n.b=0)
 else if n.op=2 then (decide (n.a=0)||decide (n.a=1)) && aX n.b 1 4
 else if n.op=3 then aX n.a 0 16 && aX n.b 0 1000
 else if n.op=4 \/n.op=5 \/n.op=6 \/n.op=7 then decide (n.a=0) && decide (n.b=0)
 else if n.op=8 \/n.op=9 then aX n.a 0 63 && decide (n.b=0)
 else if n.op=10 then aX n.a 0 63 && aX n.b 0 15
 else if n.op=11 then aX n.a 0 63 && aX n.b 0 16
 else if n.op=12 then aX n.b 1 4 && aX n.a 0 (n.b-1)
 else if n.op=13 then aX n.a 0 15 && decide (n.b=0)
 else false
def bB(n:Nd):Int:=if n.op=4 \/n.op=5 \/n.op=6 \/n.op=13 then 2 else if n.op=7 then 3 else if n.op=11 then 2+n.b else if n.op=12 then n.b else 0
def cnt:Md ->Nd ->Option Nat
 | .tm,n=>if aF n=true/\n.op≠3/\n.op≠13 then some (if n.op=2 then n.b.toNat else (bB n).toNat)else none
 | .fn,n=>if n.op=13/\aF n=true then some 2 else none
 | .am,n=>if n.op=3/\aF n=true then some 0 else none
def nx:Md ->Nd ->Nat ->Md
 | .tm,n,_=>if n.op=2 then .am else if n.op=12 then .fn else .tm
 | .fn,_,_=>.tm
 | .am,_,_=>.am
def rT':Int ->List Tr ->Bool
 |_,[]=>true
 |last,x::r=>decide (last<x.n.a) && rT' x.n.a r
mutual
def gJ':Tr ->Bool
 | .mk n ks=>(if n.op=2 then rT' (-1) ks else true) && eU' ks
def eU':List Tr ->Bool
 |[]=>true
 |x::r=>gJ' x && eU' r
end
def endS(t:List Nd)(s:Md)(a:Nat):Option Nat:=match parse cnt nx t.length s (t.drop a)with
 |some (x,r)=>if gJ' x=true then some (t.length-r.length)else none
 |none=>none
def gR(t:List Nd)(s:Md):Nat ->Nat ->Option Nat
 |0,a=>some a
 |c+1,a=>match endS t s a with
  |none=>none
  |some a'=>gR t s c a'
def gS(t:List Nd):Nat ->Int ->Nat ->Option Nat
 |0,_,a=>some a
 |c+1,last,a=>match t[a]? with
  |some m=>if m.op=3/\aF m=true/\last<m.a then gS t c m.a (a+1)else none
  |none=>none
theorem Dx{f g:Nat}(s:Nat ->Md):∀(c k:Nat) (r:List Nd),r.length<=f ->r.length<=g ->kidsL (parse cnt nx f) s k c r=kidsL (parse cnt nx g) s k c r
 |0,k,r,_,_=>rfl
 |c+1,k,r,a,b=>by
  simp only[kidsL];rw[Dw (cnt:=cnt) (nx:=nx) (s:=s k) a b];cases h:parse cnt nx g (s k) r with
  |none=>rfl
  |some q=>
   obtain⟨x,d⟩:=q;have:=uD h;simp only;rw[Dx (f:=f) (g:=g) s c (k+1) d Uo Uo]
theorem Dy(t:List Nd)(s:Md):∀(c k a:Nat),a<=t.length ->gR t s c a=match kidsL (parse cnt nx t.length) (λ_=>s) k c (t.drop a)with
  |some (ks,r)=>if eU' ks=true then some (t.length-r.length)else none
  |none=>none
 |0,k,a,ha=>by simp[gR,kidsL,eU'];omega
 |c+1,k,a,ha=>by
  simp only[gR,kidsL,endS];cases h:parse cnt nx t.length s (t.drop a)with
  |none=>rfl
  |some q=>
   obtain⟨x,r⟩:=q;obtain⟨d,e,f,_⟩:=Jy ha h;simp only
   by_cases b:gJ' x=true
   ·rw[KX b]
    simp only;rw[Dy t s c (k+1) (t.length-r.length) Uo,<- d];cases kidsL (parse cnt nx t.length) (λ_=>s) (k+1) c r with
    |none=>rfl
    |some q=>simp[eU',b]
   ·rw[KY b]
    simp only;cases kidsL (parse cnt nx t.length) (λ_=>s) (k+1) c r with
    |none=>rfl
    |some q=>simp[eU',b]
theorem Dz(t:List Nd)(s:Md){a:Nat}{n:Nd}(b:t[a]?=some n){c:Nat}(hc:cnt s n=some c):
  endS t s a=match kidsL (parse cnt nx t.length) (nx s n) 0 c (t.drop (a+1))with
  |some (ks,r)=>if gJ' (.mk n ks)=true then some (t.length-r.length)else none
  |none=>none:=by
 have i:=aL b;obtain⟨x,d,j⟩:=ay i;rw[b]at d;obtain rfl:=JB d;have k:(t.drop (a+1)).length<=t.length:=Ud
 unfold endS;rw[j];have e:t.length=(t.length-1)+1:=Uo
 rw[show parse cnt nx t.length s (n::t.drop (a+1))=parse cnt nx ((t.length-1)+1) s (n::t.drop (a+1)) by rw[<- e]];simp only[parse,hc];have l:=Dx (f:=t.length-1) (g:=t.length) (nx s n) c 0 (t.drop (a+1)) Uk k;rw[l];cases kidsL (parse cnt nx t.length) (nx s n) 0 c (t.drop (a+1))with
 |none=>rfl
 |some q=>rfl
theorem uE(t:List Nd)(s:Md){a:Nat}(h:∀n,t[a]?=some n ->cnt s n=none):endS t s a=none:=by
 by_cases b:a<t.length
 ·obtain⟨n,d,f⟩:=ay b
  unfold endS;rw[f];have e:t.length=(t.length-1)+1:=Uo
  rw[show parse cnt nx t.length s (n::t.drop (a+1))=parse cnt nx ((t.length-1)+1) s (n::t.drop (a+1)) by rw[<- e]];simp only[parse,h n d]
 ·unfold endS
  rw[JY Uo];cases t.length<;>simp[parse]
theorem sb(t:List Nd)(s:Md){a:Nat}{n:Nd}(d:t[a]?=some n){c:Nat}(hc:cnt s n=some c)(h2:s= .tm ->n.op≠2){s':Md}(e:∀k,nx s n k=s')(b:n.op≠2):endS t s a=gR t s' c (a+1):=by
 have f:=aL d;rw[Dz t s d hc,Dy t s' c 0 (a+1) Uo,show nx s n=λ_=>s' from funext e];cases kidsL (parse cnt nx t.length) (λ_=>s') 0 c (t.drop (a+1))with
 |none=>rfl
 |some q=>simp[gJ',b]
theorem DA(t:List Nd):∀(c k:Nat) (b:Int) (a:Nat),a<=t.length ->gS t c b a=match kidsL (parse cnt nx t.length) (λ_=>Md.am) k c (t.drop a)with
  |some (ks,r)=>if rT' b ks=true/\eU' ks=true then some (t.length-r.length)else none
  |none=>none
 |0,k,b,a,ha=>by simp[gS,kidsL,rT',eU'];omega
 |c+1,k,b,a,ha=>by
  simp only[gS,kidsL]
  by_cases f:a<t.length
  ·obtain⟨n,g,i⟩:=ay f
   have e:t.length=(t.length-1)+1:=Uo
   have j:parse cnt nx t.length .am (t.drop a)=if n.op=3/\aF n=true then some (.mk n [],t.drop (a+1))else none:=by
    skip
    rw[i,show parse cnt nx t.length .am (n::t.drop (a+1))=parse cnt nx ((t.length-1)+1) .am (n::t.drop (a+1)) by rw[<- e]];simp only[parse,cnt]
    by_cases h:n.op=3/\aF n=true
    ·simp only[KX h,kidsL]
    ·simp only[KY h]
   rw[g];simp only[j]
   by_cases h:n.op=3/\aF n=true
   ·rw[KX h]
    simp only;have l:n.op≠2:=by rw[h.1];decide
    by_cases d:b<n.a
    ·rw[KX ⟨h.1,h.2,d⟩,DA t c (k+1) n.a (a+1) Uo]
     cases kidsL (parse cnt nx t.length) (λ_=>Md.am) (k+1) c (t.drop (a+1))with
     |none=>rfl
     |some q=>simp[rT',eU',gJ',Tr.n,d,l]
    ·rw[KY λq=>d q.2.2]
     cases kidsL (parse cnt nx t.length) (λ_=>Md.am) (k+1) c (t.drop (a+1))with
     |none=>rfl
     |some q=>simp[rT',Tr.n,d]
   ·rw[KY h,KY λq=>h ⟨q.1,q.2.1⟩]
  ·rw[QF Uo]
   have:parse cnt nx t.length .am (t.drop a)=none:=by
    skip
    rw[JY Uo];cases t.length<;>simp[parse]
   simp only[this]
theorem DB(t:List Nd){a:Nat}{n:Nd}(b:t[a]?=some n)(h2:n.op=2)(d:aF n=true):endS t .tm a=gS t n.b.toNat (-1) (a+1):=by
 have f:=aL b;have e:cnt .tm n=some n.b.toNat:=by simp[cnt,d,h2]
 rw[Dz t .tm b e,DA t n.b.toNat 0 (-1) (a+1) Uo,show nx .tm n=λ_=>Md.am from funext λk=>by simp[nx,h2]];cases kidsL (parse cnt nx t.length) (λ_=>Md.am) 0 n.b.toNat (t.drop (a+1))with
 |none=>rfl
 |some q=>simp[gJ',h2]
theorem DC{t:List Nd}{s:Md}{a e:Nat}(h:endS t s a=some e):a<e/\e<=t.length:=by
 unfold endS at h;split at h
 ·rename_i x r b
  split at h
  ·obtain rfl:=JB h
   have d:=uD b;have f:=bg x;rw[VK]at d;omega
  ·cases h
 ·cases h
def Ok(s:Md)(x:Tr):Prop:=okT cnt nx x s/\gJ' x=true
def nL(t:List Nd):Option Tr:=match pU (cnt:=cnt) (nx:=nx) Md.tm t with
 |some x=>if gJ' x=true then some x else none
 |none=>none
theorem DD{t:List Nd}{x:Tr}(h:nL t=some x):t=row x/\Ok .tm x:=by
 unfold nL at h;split at h
 ·rename_i y a
  split at h
  ·rename_i b
   obtain rfl:=JB h;obtain⟨d,e⟩:=Jz a;exact⟨d,e,b⟩
  ·cases h
 ·cases h
theorem DE{x:Tr}(h:Ok .tm x):nL (row x)=some x:=by
 unfold nL;rw[JA h.1];simp[h.2]
theorem JE{s:Md}{x:Tr}(h:Ok s x)(p q:List Nd):endS (p++(row x++q)) s p.length=some (p.length+(row x).length):=by
 unfold endS;rw[List.drop_left,fF' x _ s q Uk h.1];simp only[h.2,if_true]
 congr 1
 simp;omega
theorem DF(t:List Nd):endS t .tm 0=some t.length↔(nL t).isSome:=by
 unfold endS nL pU;rw[List.drop_zero];cases h:parse cnt nx t.length Md.tm t with
 |none=>simp
 |some q=>
  obtain⟨x,r⟩:=q;have b:=uD h;have d:=bg x;cases r with
  |nil=>by_cases a:gJ' x=true<;>simp[a]
  |cons y r=>
   simp only[JV]at b
   by_cases a:gJ' x=true
   ·simp[a];omega
   ·simp[a]
open Go Go.Wx Cd
def bi(n:Nd)(k:Int):Int:=if ((n.op=4 \/n.op=5)/\k=1) \/(n.op=7/\k=2)then 1 else 0
def arC(n:Nd)(nb:Int)(k:Int):Int:=if n.op=13 then (if k=1 then nb else 0)else bi n k
theorem mJ{n:Nd}(h:n.op≠13)(nb k:Int):arC n nb k=bi n k:=by simp[arC,h]
section
variable{S:Type}(one:S ->Nd ->Int ->Option S)(raw:S ->Nd ->S)
mutual
def wT:Tr ->Int ->Int ->S ->Option S
 | .mk n ks,d,nb,s=>match (if n.op=3 \/n.op=13 then some (raw s n)else one s n d)with
  |none=>none
  |some s1=>wK ks n nb 0 d s1
def wK:List Tr ->Nd ->Int ->Int ->Int ->S ->Option S
 |[],_,_,_,_,s=>some s
 |x::r,n,nb,k,d,s=>match wT x (d+arC n nb k) n.b s with
  |none=>none
  |some s1=>wK r n nb (k+1) d s1
end
end
def cM{U:Type}(s:U×List Nd)(n:Nd):U×List Nd:=(s.1,s.2++[n])
theorem DG{U:Type}(one:U×List Nd ->Nd ->Int ->Option (U×List Nd)):∀(ks:List Tr) (n:Nd) (nb k d:Int) (s:U×List Nd),bC cnt nx ks n .tm k.toNat ->n.op=2 ->wK one cM ks n nb k d s=some (s.1,s.2++rows ks)
 |[],n,nb,k,d,s,_,_=>by simp[wK,rows]
 | .mk m l::r,n,nb,k,d,s,h,h2=>by
  obtain⟨h3,h4⟩:=h;have b:cnt .am m=some l.length:=by
   have:=h3.1
   rwa [show nx Md.tm n k.toNat= .am by simp[nx,h2]]at this
  have e:m.op=3/\l=[]:=by
   simp only[cnt]at b;split at b
   ·rename_i q
    exact⟨q.1,List.length_eq_zero_iff.1 (JB b).symm⟩
   ·cases b
  obtain⟨f,rfl⟩:=e;have g:∀a,bC cnt nx r n .tm a:=by
   have:∀(r:List Tr) (k a:Nat),bC cnt nx r n .tm k ->bC cnt nx r n .tm a:=by
    intro r
    induction r with
    |nil=>intros;trivial
    |cons y r i=>
     intro k a q;refine⟨?_,i _ _ q.2⟩;have:=q.1
     rwa [show nx Md.tm n k=nx Md.tm n a from rfl]at this
   exact λa=>this r _ a h4
  simp only[wK,wT,f,true_or,if_true,cM];rw[DG one r n nb (k+1) d _ (g _) h2];simp[rows,row]
theorem yP{n:Nd}{s:Md}:∀{r:List Tr} {k:Nat} (a:Nat),bC cnt nx r n s k ->bC cnt nx r n s a
 |[],_,_,_=>trivial
 |y::r,k,a,q=>by
  refine⟨?_,yP (r:=r) _ q.2⟩;have:=q.1;cases s<;>exact this
theorem oW{x:Tr}{r:List Tr}(h:eU' (x::r)=true):gJ' x=true/\eU' r=true:=by simpa[eU']using h
theorem Ok.kids{n:Nd}{ks:List Tr}{s:Md}(h:Ok s (.mk n ks)):cnt s n=some ks.length/\bC cnt nx ks n s 0/\eU' ks=true:=by
 obtain⟨⟨b,d⟩,a⟩:=h;refine⟨b,d,?_⟩;simp only[gJ',Bool.and_eq_true]at a;exact a.2
theorem kE{n:Nd}{s:Md}{x:Tr}{r:List Tr}{k:Nat}(h:bC cnt nx (x::r) n s k)(hi:eU' (x::r)=true):Ok (nx s n 0) x/\bC cnt nx r n s k/\eU' r=true:=by
 have a:=h.1;rw[show nx s n k=nx s n 0 by cases s<;>rfl]at a;exact⟨⟨a,(oW hi).1⟩,yP _ h.2,(oW hi).2⟩
section
variable{U:Type}{one:U×List Nd ->Nd ->Int ->Option (U×List Nd)}
mutual
theorem DH{G:Nat}(g:1<=G)(h:∀u l n d b l',one (u,l) n d=some (b,l') ->l'.length<=l.length+G):∀(x:Tr) (d nb:Int) (u:U) (l:List Nd) (b:U) (l':List Nd),wT one cM x d nb (u,l)=some (b,l') ->l'.length<=l.length+G*(row x).length
 | .mk n ks,d,nb,u,l,b,l',e=>by
  simp only[wT]at e;split at e
  ·cases e
  ·rename_i i a
   obtain⟨j,f⟩:=i;have k:f.length<=l.length+G:=by
    split at a
    ·simp only[cM,QZ,Prod.mk.injEq]at a
     rw[<- a.2];simp;omega
    ·exact h _ _ _ _ _ _ a
   have m:=DI g h ks n nb 0 d j f b l' e;simp only[row,JV,Nat.mul_add];omega
theorem DI{G:Nat}(f:1<=G)(h:∀u l n d a l',one (u,l) n d=some (a,l') ->l'.length<=l.length+G):∀(ks:List Tr) (n:Nd) (nb k d:Int) (u:U) (l:List Nd) (a:U) (l':List Nd),wK one cM ks n nb k d (u,l)=some (a,l') ->l'.length<=l.length+G*(rows ks).length
 |[],n,nb,k,d,u,l,a,l',e=>by
  simp only[wK,QZ,Prod.mk.injEq]at e;rw[e.2];simp[rows]
 |x::r,n,nb,k,d,u,l,a,l',e=>by
  simp only[wK]at e;split at e
  ·cases e
  ·rename_i j b
   obtain⟨g,i⟩:=j;have m:=DH f h x _ _ u l g i b;have o:=DI f h r n nb (k+1) d g i a l' e;simp only[rows,JK,Nat.mul_add];omega
end
theorem yQ{x:Tr}(h:x.n.op≠13)(d nb a:Int)(s:U×List Nd):wT one cM x d nb s=wT one cM x d a s:=by
 obtain⟨n,e⟩:=x;simp only[Tr.n]at h;simp only[wT];split
 ·rfl
 ·rename_i f _
  have:∀(r:List Tr) (k:Int) (s:U×List Nd),wK one cM r n nb k d s=wK one cM r n a k d s:=by
   intro r
   induction r with
   |nil=>intros;rfl
   |cons y r b=>
    intro k s;simp only[wK,mJ h,b]
  exact this _ _ _
end
theorem eZ{n:Nd}{c:Nat}(h:cnt .tm n=some c):aF n=true/\n.op≠3/\n.op≠13/\c=if n.op=2 then n.b.toNat else (bB n).toNat:=by
 simp only[cnt]at h;split at h
 ·rename_i q
  exact⟨q.1,q.2.1,q.2.2,(JB h).symm⟩
 ·cases h
theorem oX{n:Nd}{c:Nat}(h:cnt .fn n=some c):aF n=true/\n.op=13/\c=2:=by
 simp only[cnt]at h;split at h
 ·rename_i q
  exact⟨q.2,q.1,(JB h).symm⟩
 ·cases h
theorem Ok.tm{n:Nd}{ks:List Tr}(h:Ok .tm (.mk n ks)):aF n=true/\n.op≠3/\n.op≠13:=by
 obtain⟨d,_⟩:=h.kids;obtain⟨a,b,c,_⟩:=eZ d;exact⟨a,b,c⟩
theorem Ok.fn{x:Tr}(h:Ok .fn x):∃f ty bo,x= .mk f [ty,bo]/\f.op=13/\aF f=true/\Ok .tm ty/\Ok .tm bo:=by
 obtain⟨f,d⟩:=x;obtain⟨e,g,i⟩:=h.kids;obtain⟨a,b,c⟩:=oX e
 match d,c with
 |[ty,bo],_=>
  obtain⟨j,k,l⟩:=kE g i;obtain⟨m,_,_⟩:=kE k l;exact⟨f,ty,bo,rfl,b,a,j,m⟩
theorem qt':∀{ks:List Tr} {n:Nd},n.op=2 ->bC cnt nx ks n .tm 0 ->(rows ks).length=ks.length
 |[],n,_,_=>rfl
 | .mk m l::r,n,h2,h=>by
  obtain⟨h3,h4⟩:=h;have a:cnt .am m=some l.length:=by
   have:=h3.1
   rwa [show nx Md.tm n 0= .am by simp[nx,h2]]at this
  have b:l=[]:=by
   simp only[cnt]at a;split at a
   ·exact List.length_eq_zero_iff.1 (JB a).symm
   ·cases a
  subst b;have:=qt' h2 (yP 0 h4);simp[rows,row,this]
theorem dn{n:Nd}(h:aF n=true):0<=n.b/\n.b<=1000/\0<=n.a/\n.a<=1048576:=by
 simp only[aF]at h
 repeat' split at h
 all_goals first|(simp[aX]at h;omega)|contradiction
theorem yR(n:Nd)(k:Int):0<=bi n k/\bi n k<=1:=by
 unfold bi;split<;>omega
section
variable(h:Int ->Nd ->Option Tr)
mutual
def gT:Tr ->Int ->Int ->Option Tr
 | .mk n ks,d,nb=>if n.op=1 then h d n else match gK ks n nb 0 d with
  |none=>none
  |some ks'=>some (.mk n ks')
def gK:List Tr ->Nd ->Int ->Int ->Int ->Option (List Tr)
 |[],_,_,_,_=>some []
 |x::r,n,nb,k,d=>match gT x (d+arC n nb k) n.b with
  |none=>none
  |some y=>match gK r n nb (k+1) d with
   |none=>none
   |some r'=>some (y::r')
end
def iK{U:Type}(s:U×List Nd)(n:Nd)(d:Int):Option (U×List Nd):=if n.op=1 then match h d n with
  |none=>none
  |some y=>some (s.1,s.2++row y)
 else some (s.1,s.2++[n])
end
section
variable{h:Int ->Nd ->Option Tr}{U:Type}
theorem pV{n:Nd}{s:Md}{c:Nat}(hc:cnt s n=some c)(h1:n.op=1):c=0:=by
 cases s with
 |tm=>
  obtain⟨_,_,_,e⟩:=eZ hc;rw[e];simp[h1,bB]
 |fn=>
  obtain⟨_,e,_⟩:=oX hc;omega
 |am=>
  simp only[cnt]at hc;split at hc
  ·rename_i q
   omega
  ·cases hc
mutual
theorem GZ':∀(x:Tr) (s:Md) (d nb:Int) (u:U) (l:List Nd),okT cnt nx x s ->wT (iK h) cM x d nb (u,l)=match gT h x d nb with
  |none=>none
  |some y=>some (u,l++row y)
 | .mk n ks,s,d,nb,u,l,b=>by
  obtain⟨hc,f⟩:=b
  by_cases a:n.op=1
  ·have:ks=[]:=List.length_eq_zero_iff.1 (pV hc a)
   subst this;simp only[wT,gT,iK,a,if_true];rw[KY UO];cases h d n with
   |none=>rfl
   |some y=>simp[wK]
  ·simp only[wT,gT,iK,KY a,cM]
   have e:(if n.op=3 \/n.op=13 then some (u,l++[n])else some (u,l++[n]))=some (u,l++[n]):=by split<;>rfl
   rw[e];simp only;rw[wK_g ks n s nb 0 d 0 u (l++[n]) f];cases gK h ks n nb 0 d with
   |none=>rfl
   |some g=>simp[row]
theorem wK_g:∀(ks:List Tr) (n:Nd) (s:Md) (nb k d:Int) (j:Nat) (u:U) (l:List Nd),bC cnt nx ks n s j ->wK (iK h) cM ks n nb k d (u,l)=match gK h ks n nb k d with
  |none=>none
  |some a=>some (u,l++rows a)
 |[],n,s,nb,k,d,j,u,l,_=>by simp[wK,gK,rows]
 |x::r,n,s,nb,k,d,j,u,l,b=>by
  obtain⟨e,hr⟩:=b;simp only[wK,gK];rw[GZ' x (nx s n j) _ _ u l e];cases gT h x (d+arC n nb k) n.b with
  |none=>rfl
  |some y=>
   simp only;rw[wK_g r n s nb (k+1) d (j+1) u (l++row y) hr];cases gK h r n nb (k+1) d with
   |none=>rfl
   |some f=>simp[rows,List.append_assoc]
end
mutual
theorem yS(k:∀d n y,aF n=true ->n.op=1 ->h d n=some y ->Ok .tm y):∀(x:Tr) (s:Md) (d nb:Int) (y:Tr),Ok s x ->gT h x d nb=some y ->Ok s y/\(x.n.op≠1 ->y.n=x.n)
 | .mk n ks,s,d,nb,y,l,e=>by
  obtain⟨hc,m,hi⟩:=l.kids
  by_cases b:n.op=1
  ·simp only[gT,b,if_true]at e
   have f:s= .tm:=by
    cases s with
    |tm=>rfl
    |fn=>
     obtain⟨_,e,_⟩:=oX hc;omega
    |am=>
     simp only[cnt]at hc;split at hc
     ·rename_i q
      omega
     ·cases hc
   subst f;obtain⟨o,_⟩:=eZ hc;exact⟨k d n y o b e,λq=>absurd b q⟩
  ·simp only[gT,KY b]at e
   split at e
   ·cases e
   rename_i g i;obtain rfl:=JB e;obtain⟨p,r,t,u⟩:=DJ k ks n s nb 0 d 0 g m hi i;refine⟨⟨⟨by rw[hc,p],r⟩,?_⟩,λ_=>rfl⟩;simp only[gJ',t,Bool.and_true]
   by_cases j:n.op=2
   ·have a:=l.2
    simp only[gJ',KX j,Bool.and_eq_true]at a ⊢;have f:nx s n 0= .am:=by
     cases s with
     |tm=>simp[nx,j]
     |fn=>
      obtain⟨_,e,_⟩:=oX hc;omega
     |am=>rfl
    exact u f (-1) a.1
   ·simp[j]
theorem DJ(p:∀d n y,aF n=true ->n.op=1 ->h d n=some y ->Ok .tm y):∀(ks:List Tr) (n:Nd) (s:Md) (nb k d:Int) (j:Nat) (a:List Tr),bC cnt nx ks n s j ->eU' ks=true ->gK h ks n nb k d=some a ->ks.length=a.length/\bC cnt nx a n s j/\eU' a=true/\(nx s n 0= .am ->∀b,rT' b ks=true ->rT' b a=true)
 |[],n,s,nb,k,d,j,a,_,_,e=>by
  simp only[gK,QZ]at e;subst e;exact⟨rfl,trivial,rfl,λ_ _ h=>h⟩
 |x::r,n,s,nb,k,d,j,a,v,hi,e=>by
  obtain⟨t,hr⟩:=v;obtain⟨w,z⟩:=oW hi;simp only[gK]at e;split at e
  ·cases e
  rename_i y D;split at e
  ·cases e
  rename_i E g;obtain rfl:=JB e;obtain⟨⟨F,H⟩,I⟩:=yS p x (nx s n j) _ _ y ⟨t,w⟩ D;obtain⟨L,M,N,O⟩:=DJ p r n s nb (k+1) d (j+1) E hr z g;refine⟨by simp[L],⟨F,M⟩,by simp[eU',H,N],λu b i=>?_⟩;simp only[rT',Bool.and_eq_true,decide_eq_true_eq]at i ⊢;have o:x.n.op≠1:=by
   obtain⟨m,l⟩:=x;have f:=t.1;rw[show nx s n j= .am by rw[<- u];cases s<;>rfl]at f;simp only[cnt]at f;split at f
   ·rename_i q
    simp only[Tr.n];omega
   ·cases f
  rw[I o];exact⟨i.1,O u _ i.2⟩
end
end
def gk(by_ fr:Int)(d:Int)(n:Nd):Option Tr:=if fr+d<=n.a then (if by_>1048576-n.a then none else some (.mk {n with a:=n.a+by_} []))else some (.mk n [])
def lA(x:Tr)(by_ fr:Int):Option Tr:=gT (gk by_ fr) x 0 0
theorem oY{n:Nd}(h1:n.op=1)(ha:0<=n.a)(a:n.a<=1048576)(hb:n.b=0):Ok .tm (.mk n []):=by
 refine⟨⟨?_,trivial⟩,by simp[gJ',eU',h1]⟩;have:aF n=true:=by simp[aF,h1,aX,ha,a,hb]
 simp[cnt,this,h1,bB]
theorem DK{by_ fr d:Int}{n:Nd}{y:Tr}(hb:0<=by_)(b:aF n=true)(h1:n.op=1)(e:gk by_ fr d n=some y):Ok .tm y:=by
 have a:aX n.a 0 1048576=true/\n.b=0:=by simpa[aF,h1]using b
 have:=dD.1 a.1;simp only[gk]at e;split at e
 ·split at e
  ·cases e
  ·obtain rfl:=JB e
   exact oY (by simpa using h1) Us Us a.2
 ·obtain rfl:=JB e
  exact oY h1 this.1 this.2 a.2
theorem JI{x y:Tr}{by_ fr:Int}(hb:0<=by_)(a:Ok .tm x)(e:lA x by_ fr=some y):Ok .tm y:=
 (yS (λd n y b f e=>DK hb b f e) x .tm 0 0 y a e).1
end Tm
namespace Go.Q
def τ:Tau where
 tab:=[(7,[(0,1,false),(1,1,false),(2,1,false),(3,1,false)],[0,0,1,7]),(8,[(0,1,false),(1,1,false),(2,1,false),(3,1,false)],[0,0,1,7]),(13,[(0,1,false),(1,1,false)],[9,11]),(14,[(0,1,false),(1,1,false)],[9,11]),(18,[(0,1,false)],[3]),(19,[(0,1,false)],[3]),(25,[(0,1,false),(1,1,false),(2,1,false),(3,1,false),(4,1,false)],[0,2,2,0,2]),(26,[(0,1,false),(1,1,false),(2,1,false),(3,1,false),(4,1,false)],[0,2,2,0,2]),(30,[(0,5,true),(5,1,false),(6,1,false),(7,1,false)],[0,2,2,0,2,2,2,0]),(31,[(0,5,true),(5,1,false),(6,1,false),(7,1,false)],[0,2,2,0,2,2,2,0]),(45,[(0,1,false),(1,1,false),(2,1,false)],[0,0,0]),(46,[(0,1,false),(1,1,false),(2,1,false)],[0,0,0]),(69,[(0,1,false),(1,1,false),(2,1,false),(3,1,false),(4,1,false),(5,1,false),(6,1,false)],[0,2,2,2,2,2,2]),(70,[(0,1,false),(1,1,false),(2,1,false),(3,1,false),(4,1,false),(5,1,false),(6,1,false)],[0,2,2,2,2,2,2]),(74,[(0,1,false),(1,1,false)],[2,2]),(75,[(0,1,false),(1,1,false)],[2,2]),(77,[(0,1,false),(1,1,false)],[0,2]),(78,[(0,1,false),(1,1,false)],[0,2]),(86,[(0,1,false),(1,1,false)],[2,2]),(87,[(0,1,false),(1,1,false)],[2,2]),(88,[(0,1,false)],[0]),(89,[(0,1,false)],[0]),(92,[(0,5,true),(5,1,false),(6,1,false)],[0,2,2,0,2,0,2]),(93,[(0,5,true),(5,1,false),(6,1,false)],[0,2,2,0,2,0,2]),(102,[(0,5,true),(5,1,false),(6,1,false)],[0,2,2,0,2,0,0]),(103,[(0,5,true),(5,1,false),(6,1,false)],[0,2,2,0,2,0,0]),(109,[(0,5,true),(5,1,false),(6,1,false)],[0,2,2,0,2,0,0]),(110,[(0,5,true),(5,1,false),(6,1,false)],[0,2,2,0,2,0,0]),(116,[(0,1,false),(1,1,false)],[0,0]),(117,[(0,1,false),(1,1,false)],[0,0]),(144,[(0,3,true),(3,1,false),(4,1,false),(5,1,false)],[0,0,0,2,2,2]),(145,[(0,3,true),(3,1,false),(4,1,false),(5,1,false)],[0,0,0,2,2,2]),(177,[(0,1,false),(1,1,false),(2,1,false)],[0,0,0]),(178,[(0,1,false),(1,1,false),(2,1,false)],[0,0,0]),(190,[(0,1,false),(1,1,false)],[2,2]),(191,[(0,1,false),(1,1,false)],[2,2]),(219,[(0,1,false),(1,1,false)],[0,0]),(220,[(0,1,false),(1,1,false)],[0,0]),(233,[(0,1,false),(1,1,false)],[0,0]),(234,[(0,1,false),(1,1,false)],[0,0]),(241,[(0,1,false)],[0]),(242,[(0,1,false)],[0]),(244,[(0,5,true),(5,1,false),(6,1,false)],[0,2,2,0,2,2,0]),(245,[(0,5,true),(5,1,false),(6,1,false)],[0,2,2,0,2,2,0]),(258,[(0,5,true),(5,1,false)],[0,2,2,0,2,0]),(259,[(0,5,true),(5,1,false)],[0,2,2,0,2,0]),(266,[(0,1,false)],[0]),(267,[(0,1,false)],[0]),(307,[(0,5,true),(5,1,false)],[0,2,2,0,2,2]),(308,[(0,5,true),(5,1,false)],[0,2,2,0,2,2]),(316,[(0,5,true),(5,1,false),(6,1,false),(7,1,false)],[0,2,2,0,2,2,0,0]),(317,[(0,5,true),(5,1,false),(6,1,false),(7,1,false)],[0,2,2,0,2,2,0,0]),(350,[(0,1,false),(1,1,false),(2,1,false),(3,1,false)],[3,3,3,9]),(351,[(0,1,false),(1,1,false),(2,1,false),(3,1,false)],[3,3,3,9]),(361,[(0,1,false),(1,1,false),(2,1,false),(3,1,false),(4,1,false),(5,1,false),(6,1,false),(7,1,false),(8,1,false),(9,1,false),(10,1,false)],[11,11,6,7,7,7,7,5,3,12,12]),(362,[(0,1,false),(1,1,false),(2,1,false),(3,1,false),(4,1,false),(5,1,false),(6,1,false),(7,1,false),(8,1,false),(9,1,false),(10,1,false)],[11,11,6,7,7,7,7,5,3,12,12])]
 ones:=[(2,0),(3,0),(4,1),(5,7),(6,7),(9,9),(10,9),(11,9),(12,11),(15,3),(16,3),(17,3),(20,8),(21,12),(22,2),(23,2),(24,2),(27,2),(28,2),(29,2),(34,2),(35,0),(40,2),(50,2),(59,3),(62,3),(67,2),(68,2),(91,2),(94,2),(128,2),(129,2),(132,6),(133,2),(136,2),(143,2),(149,2),(150,2),(168,4),(169,4),(176,4),(189,3),(199,11),(206,3),(229,2),(237,2),(254,11),(260,2),(284,4),(302,2),(304,2),(309,2),(310,0),(315,3),(322,0),(334,11),(338,3),(341,3),(355,7),(356,7),(358,3),(359,12),(360,12),(363,3),(1,5),(32,5),(33,5),(37,5),(38,5),(42,5),(43,5),(44,5),(47,5),(49,5),(52,5),(53,5),(54,5),(55,5),(56,5),(58,5),(60,5),(61,5),(63,5),(64,5),(65,5),(66,5),(71,5),(72,5),(73,5),(76,5),(80,5),(81,5),(82,5),(83,5),(84,5),(85,5),(95,5),(96,5),(97,5),(98,5),(99,5),(100,5),(101,5),(104,5),(105,5),(106,5),(107,5),(108,5),(111,5),(112,5),(113,5),(114,5),(115,5),(118,5),(120,5),(121,5),(122,5),(123,5),(125,5),(126,5),(127,5),(130,5),(131,5),(134,5),(135,5),(138,5),(139,5),(140,5),(142,5),(147,5),(148,5),(152,5),(153,5),(155,5),(156,5),(157,5),(158,5),(159,5),(160,5),(161,5),(162,5),(163,5),(164,5),(165,5),(166,5),(167,5),(171,5),(172,5),(173,5),(174,5),(175,5),(180,5),(181,5),(182,5),(183,5),(184,5),(185,5),(186,5),(187,5),(188,5),(192,5),(193,5),(194,5),(195,5),(196,5),(197,5),(198,5),(200,5),(202,5),(204,5),(205,5),(207,5),(208,5),(209,5),(210,5),(211,5),(212,5),(213,5),(215,5),(216,5),(217,5),(218,5),(221,5),(223,5),(224,5),(225,5),(226,5),(227,5),(228,5),(230,5),(231,5),(232,5),(235,5),(238,5),(239,5),(240,5),(247,5),(248,5),(249,5),(250,5),(251,5),(252,5),(253,5),(255,5),(256,5),(257,5),(261,5),(262,5),(263,5),(264,5),(265,5),(268,5),(269,5),(271,5),(272,5),(273,5),(274,5),(276,5),(277,5),(278,5),(279,5),(280,5),(281,5),(282,5),(283,5),(285,5),(286,5),(287,5),(288,5),(289,5),(290,5),(291,5),(292,5),(294,5),(296,5),(297,5),(298,5),(299,5),(300,5),(301,5),(303,5),(305,5),(306,5),(311,5),(312,5),(313,5),(314,5),(318,5),(319,5),(320,5),(321,5),(324,5),(325,5),(326,5),(327,5),(328,5),(329,5),(330,5),(331,5),(332,5),(333,5),(335,5),(336,5),(337,5),(339,5),(340,5),(342,5),(343,5),(344,5),(345,5),(346,5),(347,5),(348,5),(349,5),(357,5)]
 slcs:=[(22,178,3,24),(23,70,7,152),(24,117,2,16),(27,87,2,48),(28,46,3,24),(29,46,3,24),(34,46,3,24),(40,4,1,1),(50,5,1,1),(67,29,1,24),(68,75,2,48),(91,78,2,32),(94,87,2,48),(128,132,1,4),(129,132,1,4),(133,34,1,24),(136,3,1,8),(143,145,6,96),(149,220,2,16),(150,220,2,16),(229,3,1,8),(237,173,1,8),(260,87,2,48),(302,67,1,24),(304,150,1,24),(309,310,1,8)]
theorem τok:aS prog τ:=HR UD
theorem aj{n:Nat}{A:AS}{K:Exit ->AS ->Prop}{c:Code}(h:vx Go.Proofs.Tryz.prog Go.Q.τ n c A K):VCode Go.Proofs.Tryz.prog n c A K:=oU Go.Q.τok h
theorem aD{n:Nat}{A:AS}{K:Exit ->AS ->Prop}{a b:Code}(h:vx Go.Proofs.Tryz.prog Go.Q.τ n a A (gh (λd=>VCode Go.Proofs.Tryz.prog n b d K) K)):VCode Go.Proofs.Tryz.prog n (.seq a b) A K:=Jx Go.Q.τok h
open Go.Wx Cd Tm
abbrev ip(n:Nd):Value:=.agg #[iV n.op,iV n.a,iV n.b]
def opI:Option Nat ->Int
 |some n=>n
 |none=>-1
section
variable{C:Mem}
def pW(t:List Nd)(i:Int):Int:=if i<0 then -1 else opI (endS t .tm i.toNat)
theorem sd(t:List Nd)(p:Nat):pW t (p:Int)=opI (endS t .tm p):=by
 unfold pW;rw[KY Uo]
 rfl
theorem nM{n:Nd}(h:aF n=true):0<=bB n/\bB n<=18:=by
 unfold bB;split
 ·omega
 split
 ·omega
 split
 ·rename_i a
  have:aX n.b 0 16=true:=by simp[aF,a]at h;exact h.2
  have:=dD.1 this;omega
 split
 ·rename_i b
  have:aX n.b 1 4=true:=by simp[aF,b]at h;exact h.1
  have:=dD.1 this;omega
 omega
def fx(t:List Nd):Int:=if t.length>4096 then 9 else if (nL t).isSome then 0 else 8
end
end Go.Q
namespace Go.Wx
end Go.Wx
namespace Go.Q
open Cd Tm
abbrev pt(b:Nat):Value:=.pointer (some ⟨b,0,none⟩)
abbrev se(e:Int):List PanicEntry:=[{v:=.iface 267 (.agg #[iV e]),recovered:=false}]
structure Wk where
 bt:Nat
 ba:Nat
 bo:Nat
 bu:Nat
 bs:Nat
 Tt:Nat
 Ta:Nat
 To:Nat
 Tu:Nat
 Ts:Nat
 ta:Option Addr
 cap:Nat
 t:List Nd
 f:Nat
 caps:Array Value
 UB:List Nat
 lo:Nat
def Wk.clo(k:Wk):Value:=.func (.func 211) #[] #[pt k.bt,pt k.ba,pt k.bo,pt k.bu,pt k.bs]
def Wk.bl(k:Wk):List Nat:=[k.bt,k.ba,k.bo,k.bu,k.bs]++k.UB
structure Wk.Ok(k:Wk)(C:Mem):Prop where
 old:∀b o v,C b o v ->b<k.lo
 row:Sl rNd C k.ta k.t
 cap:k.t.length<=k.cap
 low:∀b∈k.bl,k.lo<=b
 nd:k.bl.Nodup
structure Wk.St(k:Wk)(C:Mem)(w:World)(p:Nat)(v:Value)(l:List Nd):Prop where
 sub:Sub C w
 bt:Bk w.heap k.bt [.slice k.ta k.t.length k.cap] k.Tt
 ba:Bk w.heap k.ba [iV (p:Int)] k.Ta
 bo:Bk w.heap k.bo [.func (.func k.f) #[] k.caps] k.To
 bu:Bk w.heap k.bu [v] k.Tu
 bs:Bk w.heap k.bs [k.clo] k.Ts
 own:Own rNd 46 k.lo w v l
 far:∀g,v.ownBlock=some g ->g ∉ k.bl
 ub:∀b∈k.UB,b<w.heap.size
def yT(v v':Value)(w:World):Prop:=∀g,v'.ownBlock=some g ->v.ownBlock=some g \/w.heap.size<=g
def Wk.X(k:Wk)(v:Value):List Nat:=k.ba::k.bu::(v.ownBlock.toList++k.UB)
end Go.Q
namespace Go.Wx
def JL(j:IntKind)(B:Nat):Rd Nat where
 sz:=1
 den _ cs x:=cs=[.int j (x:Int)]/\x<B
 len:=by rintro _ cs x ⟨rfl,_⟩;rfl
 mono:=by rintro _ _ cs x _ h;exact h
 one:=by rintro _ cs x ⟨rfl,_⟩ u hu;simp at hu;subst hu;rfl
def JM(j:IntKind)(h:Array Obj)(b:Nat)(l:List Nat)(T:TypeId):Prop:=Bk h b (l.map λx:Nat=>Value.int j (x:Int)) T
end Go.Wx
namespace Go.Q
open Cd Tm
section
variable{σ:Type}
def yU(k:Wk)(U:World ->σ ->Prop)(er:Int)(w:World)(v:Value):Option (σ×List Nd) ->Ending ->World ->Prop
 |some s,e,w'=>∃v',e= .returned v'/\Own rNd 46 k.lo w' v' s.2/\U w' s.1/\Kp (v.ownBlock.toList++k.UB) w w'/\yT v v' w
 |none,e,w'=>e= .panicked (se er)/\Kp (v.ownBlock.toList++k.UB) w w'
def Wk.One(k:Wk)(C:Mem)(U:World ->σ ->Prop)(one:σ×List Nd ->Nd ->Int ->Option (σ×List Nd))(M:Nat)(er:Int):Prop:=
 ∀(w:World) (v:Value) (u:σ) (l:List Nd) (n:Nd) (d:Nat),I64 n.op ->I64 n.a ->I64 n.b ->aF n=true ->d<=100000 ->l.length<=M ->Sub C w ->Own rNd 46 k.lo w v l ->(∀g,v.ownBlock=some g ->g ∉ k.bl) ->U w u ->
  dL prog k.f/\Calls prog k.f (#[]++[v,ip n,iV (d:Int)].toArray++k.caps) w (yU k U er w v (one (u,l) n d))
def DL(k:Wk)(C:Mem)(U:World ->σ ->Prop)(er:Int)(w:World)(v:Value)(q:Nat):Option (σ×List Nd) ->Ending ->World ->Prop
 |some s,e,w'=>∃v',e= .returned (.tuple #[])/\k.St C w' q v' s.2/\U w' s.1/\Kp (k.X v) w w'/\yT v v' w
 |none,e,w'=>e= .panicked (se er)/\Kp (k.X v) w w'
theorem DM{t r:List Nd}{p:Nat}{n:Nd}(h:t.drop p=n::r):t[p]?=some n/\p<t.length/\t.drop (p+1)=r:=by
 have a:p<t.length:=by
  rcases Nat.lt_or_ge p t.length with b|b
  ·exact b
  ·rw[JY b]at h;cases h
 obtain⟨x,d,e⟩:=ay a;rw[e]at h;injection h with b f
 subst b;exact⟨d,a,f⟩
end
end Go.Q
namespace Go.Wx
def lv(P:Program)(rs:List ResultVar)(R:Ending ->World ->Prop)(u:FrameMode)(s:St)(w:World):Prop:=
 ∃fv cap dargs f args,s.d=[{target:=.fn fv cap,args:=dargs}]/\u≠ .run/\(invoke (.fn fv cap) dargs).run P w= .ok (.enter f args) w/\
  CallsD P f args u w λe u' w'=>(∃v,e= .returned v)/\settle u'= .returning/\kt P s rs w' λvs=>R (.returned (one vs)) w'
def yV(P:Program)(rs:List ResultVar)(R:Ending ->World ->Prop):Exit ->St ->World ->Prop
 | .normal,s,w=>lv P rs R .returning s w
 | .ret,s,w=>lv P rs R .returning s w
 | .panic ch,s,w=>lv P rs R (.panicking ch) s w
 |_,_,_=>False
theorem yW{P:Program}{fn:Func}{R:Ending ->World ->Prop}{u:FrameMode}{s:St}{w:World}{a:Act}{n:Nat}(g:Fr n a s)(h:lv P fn.results.toList R u s w):Leaves P fn a.tmps R a.defers u w:=by
 obtain⟨t,j,d,f,i,k,l,m,o⟩:=h;rw[g.defers,k];refine leaves_cons l m (o.mono ?_);rintro e x y ⟨⟨v,rfl⟩,b,p⟩;obtain⟨z,q,r⟩:=ri g p;simp only[b];exact⟨_,q,r⟩
theorem tG':∀{l:List (Nat×Value)} {t:Nat} {v:Value},get l t=some v ->(t,v)∈l
 |[],t,v,h=>by simp[B2]at h
 |(i,u)::r,t,v,h=>by
  simp only[ew]at h;cases hb:Nat.beq i t with
  |true=>
   rw[hb]at h;have e:=QJ hb;subst e;have:u=v:=by simpa using h
   subst this;exact List.mem_cons_self
  |false=>
   rw[hb]at h;exact List.mem_cons_of_mem _ (tG' h)
theorem lB{n:Nat}{a:Act}{l:List (Nat×Value)}(h1:a.tmps.size=n)(h2:a.defers=[])(h:∀q∈l,a.tmps[q.1]?=some q.2):Fr n a ⟨l,[]⟩:=
 ⟨h1,h2,λt v b=>h _ (tG' b)⟩
theorem pX{P:Program}{fn:Func}{b:Frame}{cs:List Frame}{R:Ending ->FrameMode ->World ->Prop}{u:FrameMode}{n:Nat}{a:Act}{s:St}{w:World}(d:Fr n a s)(e:s.d=[])(hr:fn.results= #[])(f:b.mode=u)(h:R (.returned (.tuple #[])) u w):
  bodyPostS P fn b cs R .normal a (b::cs) w:=by
 refine⟨d.defers.trans e,u,?_,.tuple #[],?_,h⟩
 ·subst f;rfl
 ·simp[results,hr]
theorem uF{P:Program}{fn:Func}{b:Frame}{cs:List Frame}{R:Ending ->FrameMode ->World ->Prop}{u:FrameMode}{n:Nat}{a:Act}{s:St}{w:World}(d:Fr n a s)(e:s.d=[])(hr:fn.results= #[])(h:R (.returned (.tuple #[])) u w):
  bodyPostS P fn b cs R .normal a ({b with mode:=u}::cs) w:=by
 refine⟨d.defers.trans e,u,rfl,.tuple #[],?_,h⟩;simp[results,hr]
end Go.Wx
namespace Go.Q
open Cd Tm
section
variable{σ:Type}
def DN(lo:Nat)(UB:List Nat)(U:World ->σ ->Prop)(er:Int)(w:World)(v:Value):Option (σ×List Nd) ->Ending ->World ->Prop
 |some s,e,w'=>∃v',e= .returned (.tuple #[v',iV 0])/\Own rNd 46 lo w' v' s.2/\U w' s.1/\Kp (v.ownBlock.toList++UB) w w'/\yT v v' w
 |none,e,w'=>e= .returned (.tuple #[.slice none 0 0,iV er])/\Kp (v.ownBlock.toList++UB) w w'
end
def JN(x:Tr)(w w':World)(v:Value):Prop:=∃a c,v= .slice a (row x).length c/\Sl rNd (New w.heap.size w') a (row x)/\(row x).length<=c
def DO(bf bb:Nat)(fr by_:Int)(w:World)(_:Unit):Prop:=Bk w.heap bf [iV fr] 3/\Bk w.heap bb [iV by_] 3
theorem yX{U:Type}{h:Int ->Nd ->Option Tr}{G:Nat}(g:1<=G)(b:∀d n y,h d n=some y ->(row y).length<=G):∀(u:U) l n d a l',iK h (u,l) n d=some (a,l') ->l'.length<=l.length+G:=by
 intro u l n d a l' e;simp only[iK]at e;split at e
 ·split at e
  ·cases e
  ·rename_i y f
   have:=b d n y f;simp only[QZ,Prod.mk.injEq]at e;rw[<- e.2,JK];omega
 ·simp only[QZ,Prod.mk.injEq]at e
  rw[<- e.2];simp;omega
theorem DP{by_ fr d:Int}{n:Nd}{y:Tr}(e:gk by_ fr d n=some y):(row y).length=1:=by
 simp only[gk]at e;split at e
 ·split at e
  ·cases e
  ·obtain rfl:=JB e
   rfl
 ·obtain rfl:=JB e
  rfl
end Go.Q
namespace Tm
open Cd
mutual
def varsT:Tr ->Int ->Int ->List (Int×Int)
 | .mk n ks,d,nb=>if n.op=1 then [(n.a,d)]else varsK ks n nb 0 d
def varsK:List Tr ->Nd ->Int ->Int ->Int ->List (Int×Int)
 |[],_,_,_,_=>[]
 |x::r,n,nb,k,d=>varsT x (d+arC n nb k) n.b++varsK r n nb (k+1) d
end
section
variable{S:Type}(met:S ->Int ->Int ->S×Bool)
def nN(p:Bool×S)(a d:Int):Bool×S:=if p.1=true then p else ((met p.2 a d).2,(met p.2 a d).1)
def gA(p:Bool×S):List (Int×Int) ->Bool×S
 |[]=>p
 |q::r=>gA (nN met p q.1 q.2) r
theorem JO(p:Bool×S)(l m:List (Int×Int)):gA met p (l++m)=gA met (gA met p l) m:=by
 induction l generalizing p with
 |nil=>rfl
 |cons q l a=>exact a _
def nO(s:(Bool×S)×List Nd)(n:Nd)(d:Int):Option ((Bool×S)×List Nd):=some (if n.op=1 then nN met s.1 n.a d else s.1,s.2)
mutual
theorem wT_e:∀(x:Tr) (s:Md) (d nb:Int) (p:Bool×S) (l:List Nd),okT cnt nx x s ->∃l',wT (nO met) cM x d nb (p,l)=some (gA met p (varsT x d nb),l')
 | .mk n ks,s,d,nb,p,l,f=>by
  obtain⟨hc,b⟩:=f
  by_cases a:n.op=1
  ·have:ks=[]:=List.length_eq_zero_iff.1 (pV hc a)
   subst this;exact⟨l,by simp[wT,nO,a,wK,varsT,gA]⟩
  ·by_cases e:n.op=3 \/n.op=13
   ·obtain⟨l',h⟩:=HW' ks n s nb 0 d 0 p (l++[n]) b
    exact⟨l',by simp only[wT,KX e,cM,varsT,KY a];exact h⟩
   ·obtain⟨l',h⟩:=HW' ks n s nb 0 d 0 p l b
    exact⟨l',by simp only[wT,KY e,nO,varsT,KY a];exact h⟩
theorem HW':∀(ks:List Tr) (n:Nd) (s:Md) (nb k d:Int) (j:Nat) (p:Bool×S) (l:List Nd),bC cnt nx ks n s j ->∃l',wK (nO met) cM ks n nb k d (p,l)=some (gA met p (varsK ks n nb k d),l')
 |[],n,s,nb,k,d,j,p,l,_=>⟨l,by simp[wK,varsK,gA]⟩
 |x::r,n,s,nb,k,d,j,p,l,a=>by
  obtain⟨b,hr⟩:=a;obtain⟨e,f⟩:=wT_e x (nx s n j) (d+arC n nb k) n.b p l b;obtain⟨g,i⟩:=HW' r n s nb (k+1) d (j+1) (gA met p (varsT x (d+arC n nb k) n.b)) e hr;exact⟨g,by simp only[wK,f,varsK,JO];exact i⟩
end
end
theorem uG(f:Int ->Int ->Bool):∀(l:List (Int×Int)) (b:Bool),(gA (λ_ a d=>((),f a d)) (b,()) l).1=(b||l.any λq=>f q.1 q.2)
 |[],b=>by simp[gA]
 |q::r,b=>by
  cases b with
  |true=>
   simp only[gA,nN,if_true,Bool.true_or];rw[uG f r true];simp
  |false=>
   simp only[gA,nN,List.any_cons];rw[KY UO,uG f r];simp
def kF(x:Tr)(n:Int):Bool:=(varsT x 0 0).all λq=>decide (q.1-q.2<max n 0)
def oZ(x:Tr)(v:Int):Int×Int:=(varsT x 0 0).foldl (λs q=>if q.1-q.2=v then (s.1+1,max s.2 q.2)else s) (0,0)
theorem DR(v:Int):∀(l:List (Int×Int)) (s:Int×Int),gA (λ(s:Int×Int) a d=>(if a-d=v then (s.1+1,max s.2 d)else s,false)) (false,s) l=(false,l.foldl (λs q=>if q.1-q.2=v then (s.1+1,max s.2 q.2)else s) s)
 |[],s=>rfl
 |q::r,s=>by
  simp only[gA,nN,List.foldl_cons];rw[KY UO];exact DR v r _
mutual
theorem gO':∀(x:Tr) (d nb:Int),(varsT x d nb).length<=(row x).length
 | .mk n ks,d,nb=>by
  simp only[varsT,row,JV];split
  ·simp
  ·have:=nt' ks n nb 0 d
   omega
theorem nt':∀(ks:List Tr) (n:Nd) (nb k d:Int),(varsK ks n nb k d).length<=(rows ks).length
 |[],n,nb,k,d=>by simp[varsK,rows]
 |x::r,n,nb,k,d=>by
  have h1:=gO' x (d+arC n nb k) n.b;have a:=nt' r n nb (k+1) d;simp only[varsK,rows,JK];omega
end
theorem yY(v:Int):∀(l:List (Int×Int)) (s:Int×Int) (D:Int),0<=s.1 ->0<=s.2 ->s.2<=D ->(∀q∈l,0<=q.2/\q.2<=D) ->0<=(l.foldl (λs q=>if q.1-q.2=v then (s.1+1,max s.2 q.2)else s) s).1/\(l.foldl (λs q=>if q.1-q.2=v then (s.1+1,max s.2 q.2)else s) s).1<=s.1+l.length/\0<=(l.foldl (λs q=>if q.1-q.2=v then (s.1+1,max s.2 q.2)else s) s).2/\(l.foldl (λs q=>if q.1-q.2=v then (s.1+1,max s.2 q.2)else s) s).2<=D
 |[],s,D,h1,h2,h3,_=>⟨h1,Ud,h2,h3⟩
 |q::r,s,D,h1,h2,h3,h=>by
  simp only[List.foldl_cons,JV];have a:=h q Ud
  by_cases e:q.1-q.2=v
  ·rw[KX e]
   have:=yY v r (s.1+1,max s.2 q.2) D Us Us Us (λq a=>h q (by simp[a]));simp only at this;refine⟨this.1,Uo,this.2.2.1,this.2.2.2⟩
  ·rw[KY e]
   have:=yY v r s D h1 h2 h3 (λq a=>h q (by simp[a]));refine⟨this.1,Uo,this.2.2.1,this.2.2.2⟩
mutual
theorem fk':∀(x:Tr) (s:Md) (d nb:Int),okT cnt nx x s ->0<=d ->0<=nb ->nb<=4 ->∀q∈varsT x d nb,d<=q.2/\q.2<=d+4*(row x).length/\0<=q.1/\q.1<=1048576
 | .mk n ks,s,d,nb,f,g,i,h4,q,a=>by
  obtain⟨hc,j⟩:=f;simp only[varsT]at a;split at a
  ·rename_i l
   simp only[JJ,JZ,or_false]at a;subst a;have b:aF n=true:=by
    cases s with
    |tm=>exact(eZ hc).1
    |fn=>exact(oX hc).1
    |am=>
     simp only[cnt]at hc;split at hc
     ·rename_i q
      exact q.2
     ·cases hc
   have:=dn b;simp only[row,JV];omega
  ·have k:0<=n.b/\(n.op=12 ->n.b<=4):=by
    have b:aF n=true:=by
     cases s with
     |tm=>exact(eZ hc).1
     |fn=>exact(oX hc).1
     |am=>
      simp only[cnt]at hc;split at hc
      ·rename_i q
       exact q.2
      ·cases hc
    refine⟨(dn b).1,λe=>?_⟩;have:aX n.b 1 4=true:=by simp[aF,e]at b;exact b.1
    exact(dD.1 this).2
   have:=tI' ks n s nb 0 d 0 j g i h4 k q a;simp only[row,JV];omega
theorem tI':∀(ks:List Tr) (n:Nd) (s:Md) (nb k d:Int) (j:Nat),bC cnt nx ks n s j ->0<=d ->0<=nb ->nb<=4 ->(0<=n.b/\(n.op=12 ->n.b<=4)) ->∀q∈varsK ks n nb k d,d<=q.2/\q.2<=d+4+4*(rows ks).length/\0<=q.1/\q.1<=1048576
 |[],n,s,nb,k,d,j,_,_,_,_,_,q,a=>by simp[varsK]at a
 |x::r,n,s,nb,k,d,j,t,u,v,h4,hb,q,a=>by
  obtain⟨p,hr⟩:=t;simp only[varsK,JW]at a;have z:0<=arC n nb k/\arC n nb k<=4:=by
   unfold arC;have:=yR n k;split
   ·split<;>omega
   ·omega
  simp only[rows,JK];rcases a with a|a
  ·by_cases i:n.op=12
   ·have:=fk' x (nx s n j) (d+arC n nb k) n.b p Uo hb.1 (hb.2 i) q a
    omega
   ·have e:varsT x (d+arC n nb k) n.b=varsT x (d+arC n nb k) 0:=by
     obtain⟨m,l⟩:=x;have o:m.op≠13:=λb=>by
      have f:=p.1;cases s with
      |tm=>
       have:nx Md.tm n j= .am \/nx Md.tm n j= .tm:=by
        simp only[nx,KY i];split<;>simp
       rcases this with e|e
       ·rw[e]at f
        simp[cnt,b]at f
       ·rw[e]at f
        exact(eZ f).2.2.1 b
      |fn=>exact(eZ (show cnt .tm m=_ from f)).2.2.1 b
      |am=>
       have f:cnt .am m=_:=f;simp[cnt,b]at f
     simp only[varsT];have:∀(l:List Tr) (k d nb g:Int),varsK l m nb k d=varsK l m g k d:=by
      intro l
      induction l with
      |nil=>intros;rfl
      |cons y l w=>
       intro k d nb g;simp only[varsK,mJ o,w (k+1) d nb g]
     rw[this l 0 (d+arC n nb k) n.b 0]
    rw[e]at a;have:=fk' x (nx s n j) (d+arC n nb k) 0 p Uo Uo Uo q a;omega
  ·have:=tI' r n s nb (k+1) d (j+1) hr u v h4 hb q a
   omega
end
end Tm
namespace Go.Q
open Cd Tm
section
variable{S:Type}
def DS(f:Nat)(caps:Array Value)(MB:List Nat)(US:World ->S ->Prop)(met:S ->Int ->Int ->S×Bool):Prop:=
 ∀(w:World) (s:S) (a d:Nat),a<=1048576 ->d<=100000 ->US w s ->dL prog f/\Calls prog f (#[]++[iV (a:Int),iV (d:Int)].toArray++caps) w (λe w'=>e= .returned (.bool (met s a d).2)/\US w' (met s a d).1/\Kp MB w w')
def DT(bf bm f:Nat)(caps:Array Value)(US:World ->S ->Prop)(w:World)(p:Bool×S):Prop:=Bk w.heap bf [.bool p.1] 4/\Bk w.heap bm [.func (.func f) #[] caps] 187/\US w p.2
end
end Go.Q
namespace Tm
open Cd
section
variable{h:Int ->Nd ->Option Tr}
mutual
theorem pd':∀(x:Tr) (s:Md) (d nb:Int),okT cnt nx x s ->(∀q∈varsT x d nb,∀n:Nd,n.op=1 ->n.a=q.1 ->(h q.2 n).isSome=true) ->(gT h x d nb).isSome=true
 | .mk n ks,s,d,nb,f,b=>by
  obtain⟨hc,g⟩:=f
  by_cases a:n.op=1
  ·simp only[gT,a,if_true]
   exact b (n.a,d) (by simp[varsT,a]) n a rfl
  ·simp only[gT,KY a]
   have:=tJ' ks n s nb 0 d 0 g (λq i=>b q (by simpa[varsT,a]using i));cases e:gK h ks n nb 0 d with
   |none=>rw[e]at this;cases this
   |some j=>rfl
theorem tJ':∀(ks:List Tr) (n:Nd) (s:Md) (nb k d:Int) (j:Nat),bC cnt nx ks n s j ->(∀q∈varsK ks n nb k d,∀n:Nd,n.op=1 ->n.a=q.1 ->(h q.2 n).isSome=true) ->(gK h ks n nb k d).isSome=true
 |[],n,s,nb,k,d,j,_,_=>rfl
 |x::r,n,s,nb,k,d,j,g,b=>by
  obtain⟨i,hr⟩:=g;have e:=pd' x (nx s n j) (d+arC n nb k) n.b i (λq a=>b q (by simp[varsK,a]));have f:=tJ' r n s nb (k+1) d (j+1) hr (λq a=>b q (by simp[varsK,a]));simp only[gK];cases l:gT h x (d+arC n nb k) n.b with
  |none=>rw[l]at e;cases e
  |some y=>
   cases m:gK h r n nb (k+1) d with
   |none=>rw[m]at f;cases f
   |some o=>rfl
end
end
def dZ(x:Tr):Prop:=∀q∈varsT x 0 0,q.1<=500000
def aK(x:Tr)(by_ fr:Int):Tr:=(lA x by_ fr).getD x
theorem nP{x:Tr}(a:Ok .tm x)(b:dZ x){by_ fr:Int}(hb:by_<=500000):lA x by_ fr=some (aK x by_ fr):=by
 have h:(lA x by_ fr).isSome=true:=pd' x .tm 0 0 a.1 (λq d n _ f=>by
  have:=b q d;unfold gk;split
  ·rw[KY Uo];rfl
  ·rfl)
 unfold aK;cases e:lA x by_ fr with
 |none=>rw[e]at h;cases h
 |some y=>rfl
theorem yZ{x:Tr}(a:Ok .tm x)(b:dZ x){by_ fr:Int}(d:0<=by_)(hb:by_<=500000):Ok .tm (aK x by_ fr):=JI d a (nP a b hb)
def kG(u:Tr)(b:Int):Tr:=if 0<=b/\b<=500000 then aK u b 0 else u
def fA(u:Tr)(v:Int)(d:Int)(n:Nd):Option Tr:=if n.a=v+d then some (kG u (v+d))else if v+d<n.a/\0<n.a then some (.mk {n with a:=n.a-1} [])else some (.mk n [])
def fB(x u:Tr)(v:Int):Tr:=(gT (fA u v) x 0 0).getD x
theorem pY{x u:Tr}(a:Ok .tm x)(v:Int):gT (fA u v) x 0 0=some (fB x u v):=by
 have h:(gT (fA u v) x 0 0).isSome=true:=pd' x .tm 0 0 a.1 (λq b n _ d=>by
  unfold fA;split
  ·rfl
  ·split<;>rfl)
 unfold fB;cases e:gT (fA u v) x 0 0 with
 |none=>rw[e]at h;cases h
 |some y=>rfl
theorem DU{u:Tr}(a:Ok .tm u)(d:dZ u)(b:Int):Ok .tm (kG u b):=by
 unfold kG;split
 ·rename_i h
  exact yZ a d h.1 h.2
 ·exact a
theorem y5{x u:Tr}(f:Ok .tm x)(i:Ok .tm u)(j:dZ u){v:Int}:Ok .tm (fB x u v):=
 (yS (h:=fA u v) (λd n y k a e=>by
  have b:aX n.a 0 1048576=true/\n.b=0:=by simpa[aF,a]using k
  have g:=dD.1 b.1;simp only[fA]at e;split at e
  ·obtain rfl:=JB e
   exact DU i j _
  ·split at e
   ·obtain rfl:=JB e
    exact oY (by simpa using a) Us Us b.2
   ·obtain rfl:=JB e
    exact oY a g.1 g.2 b.2) x .tm 0 0 _ f (pY f v)).1
end Tm
namespace Go.Q
open Cd Tm
theorem kH{x:Tr}(a:Ok .tm x)(hl:(row x).length<=4096):fx (row x)=0:=by
 unfold fx;rw[KY Uo,DE a]
 rfl
theorem JP{h:Int ->Nd ->Option Tr}{G:Nat}(a:1<=G)(b:∀d n y,h d n=some y ->(row y).length<=G){x y:Tr}{d nb:Int}(f:Ok .tm x)(e:gT h x d nb=some y):(row y).length<=G*(row x).length:=by
 have:=GZ' (h:=h) x .tm d nb () [] f.1;rw[e]at this;have:=DH a (yX a b) x d nb () [] () _ this
 simpa using this
theorem y6{x:Tr}(a:Ok .tm x)(b:dZ x){by_ fr:Int}(hb:by_<=500000):(row (aK x by_ fr)).length<=(row x).length:=by
 have:=JP (KJ 1) (λd n y e=>by rw[DP e];exact KJ _) a (nP a b hb (fr:=fr));omega
section
variable{C:Mem}
def DV(ba bt bd:Nat)(v:Int)(w:World)(s:Int×Int):Prop:=Bk w.heap ba [iV v] 3/\Bk w.heap bt [iV s.1] 3/\Bk w.heap bd [iV s.2] 3/\I64 s.1
def JR(v:Int)(s:Int×Int)(a d:Int):(Int×Int)×Bool:=(if a-d=v then (IntKind.wrap .i64 (s.1+1),max s.2 d)else s,false)
end
def DW(ba bu:Nat)(v:Int)(ua:Option Addr)(n cap:Nat)(w:World)(_:Unit):Prop:=Bk w.heap ba [iV v] 3/\Bk w.heap bu [.slice ua n cap] 29
theorem DX{u:Tr}(d:Ok .tm u)(a:dZ u)(b:Int):(row (kG u b)).length<=(row u).length:=by
 unfold kG;split
 ·rename_i h
  exact y6 d a h.2
 ·exact KJ _
theorem JS{u:Tr}(b:Ok .tm u)(a:dZ u){v d:Int}{n:Nd}{y:Tr}(e:fA u v d n=some y):(row y).length<=(row u).length:=by
 have f:=bg u;simp only[fA]at e;split at e
 ·obtain rfl:=JB e
  exact DX b a _
 ·split at e
  ·obtain rfl:=JB e
   simp[row,rows];omega
  ·obtain rfl:=JB e
   simp[row,rows];omega
def gU(x u:Tr)(v:Int):Bool:=decide (4096<((row x).length:Int)+(oZ x v).1*(((row u).length:Int)-1))
end Go.Q
