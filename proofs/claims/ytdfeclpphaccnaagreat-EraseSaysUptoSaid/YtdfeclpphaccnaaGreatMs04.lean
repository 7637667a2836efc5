import Derived.Test.YtdfeclpphaccnaaGreatMs03
import Derived.Test.YtdfeclpphaccnaaGreatProg
import Derived.KernelRfl
import Derived.Recover
set_option linter.all false
set_option maxHeartbeats 4000000
open Go.Proofs Go.Proofs.Tryz Go Go.Wx
namespace Go.Wx
abbrev vI(n:Int):AV:=.c (.p (.int .i64 n))
abbrev vP(x:PV):AV:=.c (.p x)
abbrev pI(n:Int):PV:=.int .i64 n
theorem vi{r:Int}{k:Int ->Prop}(a:k r)(h1:-9223372036854775808<=r:=by first|omega|(simp only;omega))(h2:r<=9223372036854775807:=by first|omega|(simp only;omega)):nO .i64 r k:=gC h1 h2 a
theorem aE{τ:Tau}{A:AS}{rs:List ResultVar}{r:PV}{a:List AV}{ps:List PV}(h1:dU τ A rs=some a:=by exact rfl)(h2:cL A a=some ps:=by exact rfl)(h3:ge' ps=r:=by exact rfl):∃a ps,dU τ A rs=some a/\cL A a=some ps/\ge' ps=r:=⟨a,ps,h1,h2,h3⟩
theorem eP9{τ:Tau}{A:AS}{rs:List ResultVar}{r:PV}{T:Nat}{cs:List PV}{a:List AV}{ps:List PV}{ds:List AC}(h1:dU τ A rs=some a:=by exact rfl)(h2:cL A a=some ps:=by exact rfl)(h3:ge' ps=r:=by exact rfl)(h4:look A.m 0=some (.st 1 T ds):=by exact rfl)(b:ji ds=some cs:=by exact rfl):∃a ps ds,dU τ A rs=some a/\cL A a=some ps/\ge' ps=r/\look A.m 0=some (.st 1 T ds)/\ji ds=some cs:=⟨a,ps,ds,h1,h2,h3,h4,b⟩
theorem kA9{all:List Oper}{es:List En}{τ:Tau}{A:AS}{rs:List ResultVar}{r:PV}{a:List AV}{ps:List PV}(h1:dU τ A rs=some a:=by exact rfl)(h2:cL A a=some ps:=by exact rfl)(h3:ge' ps=r:=by exact rfl)(h:j3 all es.reverse [] []=true:=by kernel_rfl):mQ all es (∃a ps,dU τ A rs=some a/\cL A a=some ps/\ge' ps=r):=qa h ⟨a,ps,h1,h2,h3⟩
theorem kP9{all:List Oper}{es:List En}{τ:Tau}{A:AS}{rs:List ResultVar}{r:PV}{T:Nat}{cs:List PV}{a:List AV}{ps:List PV}{ds:List AC}(h1:dU τ A rs=some a:=by exact rfl)(h2:cL A a=some ps:=by exact rfl)(h3:ge' ps=r:=by exact rfl)(h4:look A.m 0=some (.st 1 T ds):=by exact rfl)(b:ji ds=some cs:=by exact rfl)(h:j3 all es.reverse [] []=true:=by kernel_rfl):mQ all es (∃a ps ds,dU τ A rs=some a/\cL A a=some ps/\ge' ps=r/\look A.m 0=some (.st 1 T ds)/\ji ds=some cs):=qa h ⟨a,ps,ds,h1,h2,h3,h4,b⟩
theorem dD{τ:Tau}{rs:List ResultVar}{p:PV}{m':List (Nat×SE)}{A:AS}{bs:List AV}{ps:List PV}(h1:dU τ A rs=some bs:=by exact rfl)(h2:cL A bs=some ps:=by exact rfl)(h3:ge' ps=p:=by exact rfl)(hm:kI id (A.upd [] (bJ A (refsA bs))) m':=by repeat first|exact True.intro|refine And.intro rfl ?_)(hi:da id (keysOf m')=true:=by exact rfl):qd τ rs (.c (.p p)) m' A:=.inl ⟨bs,ps,p,id,rfl,h1,h2,h3,hm,hi⟩
theorem eI9{τ:Tau}{A:AS}{rs:List ResultVar}{a b:Int}{d:List AV}{ps:List PV}(h:a=b)(h1:dU τ A rs=some d:=by exact rfl)(h2:cL A d=some ps:=by exact rfl)(h3:ge' ps= .int .i64 a:=by exact rfl):∃d ps,dU τ A rs=some d/\cL A d=some ps/\ge' ps= .int .i64 b:=⟨d,ps,h1,h2,h▸h3⟩
theorem vy{p:Prop} [Decidable p]{k:Bool ->Prop}(a:k true)(h:p:=by omega):gB p k:=tU h a
theorem vn{p:Prop} [Decidable p]{k:Bool ->Prop}(a:k false)(h:¬ p:=by omega):gB p k:=mE h a
theorem vk{all:List Oper}{es:List En}{k:Prop}(a:k)(h:j3 all es.reverse [] []=true:=by kernel_rfl):mQ all es k:=qa h a
theorem vN(n c:Int){k:Bool ->Prop}(a:k false)(h:¬ n=c:=by omega):gB (n=c) k:=mE h a
theorem vY(n c:Int){k:Bool ->Prop}(a:k true)(h:n=c:=by omega):gB (n=c) k:=tU h a
theorem v0{k:Bool ->Prop}(a:k false):gB ((0:Int)≠0) k:=mE (λh=>h rfl) a
theorem vz{k:Bool ->Prop}(a:k true):gB ((0:Int)=0) k:=tU rfl a
theorem vE{e:Int}(h:e≠0){k:Bool ->Prop}(a:k true):gB (e≠0) k:=tU h a
theorem vF{e:Int}(h:e≠0){k:Bool ->Prop}(a:k false):gB (e=0) k:=mE h a
theorem gq{all:List Oper}{es:List En}{k:List Oper ->Prop}(a:k (qb ((all.drop es.length).map λ_=>true) (all.drop es.length)))(h:(kH (es.length-1) all []).drop es.length=qb ((all.drop es.length).map λ_=>true) (all.drop es.length):=by kernel_rfl):yL all es k:=r7 _ a h
theorem qe{P:Program}{T:Nat}{j:IntKind}{e:Int}{k:Prop}(h:∀w,(Instr.makeInterface T (.agg #[.int j e])).run P w= .ok (.iface T (.agg #[.int j e])) w)(a:k):rS P T j e k:=⟨h,a⟩
theorem au{α β:Type}(f:α ->β)(l:List α):(l.map f).length=l.length:=KF _
theorem vm{α:Type}{p:α ->List PV}{l:List α}{sz:Nat}{i:Int}{k:Nat ->List PV ->Prop}(j:Nat){x:α}(a:l[j]?=some x)(b:k j (p x))(hi:i=(j:Int):=by first|rfl|omega)(hsz:(p x).length=sz:=by rfl):kB (l.map p) sz i k:=
 oR j (p x) hi (by rw[JX,a];rfl) hsz b
theorem va{α:Type}{p:α ->List PV}{l:List α}{sz bs m:Nat}{k:Prop}(a:k)(b:∀x∈l,(p x).length=sz/\∀q∈p x,q.one=true)(hb:m+l.length<=1000000000:=by first|omega|(simp[dN];omega))(d:bs<=1000:=by decide):rC sz bs m (l.map p) k:=by
 have g:(m+l.length)*bs<=1000000000*1000:=Nat.mul_le_mul hb d;refine⟨?_⟩;rw[KF];refine⟨Uo,KQ hb UO,λy e=>?_,a⟩;obtain⟨x,f,rfl⟩:=List.mem_map.1 e;exact b x f
theorem JM{l:List (List PV)}{m:Int}{k:Nat ->Prop}(i:Nat)(a:k i)(hm:m=(i:Int):=by first|rfl|omega)(b:0<i:=by omega)(h1:i<=100:=by omega)(hl:l.length<=1000000:=by first|omega|(simp;omega)):rD l m k:=⟨i,hm,b,h1,hl,a⟩
theorem bi{y:List PV}{sz bs m:Nat}{k:Prop}(a:k)(hl:y.length=sz:=by rfl)(b:y.all PV.one=true:=by rfl)(hb:m+1<=1000000000:=by first|omega|(simp[dN];omega))(d:bs<=1000:=by decide):rC sz bs m [y] k:=by
 have g:(m+1)*bs<=1000000000*1000:=Nat.mul_le_mul hb d;refine⟨by simpa using Uo,KQ hb UO,λz e=>?_,a⟩;obtain rfl:z=y:=by simpa using e
 exact⟨hl,λq f=>List.all_eq_true.1 b q f⟩
theorem bH{lo hi:Option Int}{l:List (List PV)}{sz:Nat}{k:Nat ->Nat ->Prop}(p q:Nat)(a:k p q)(hsz:∀x∈l,x.length=sz)(h1:match lo with
 |some x=>x=(p:Int)
 |none=>p=0:=by first|rfl|omega) (h2:match hi with
 |some x=>x=(q:Int)
 |none=>q=l.length:=by first|rfl|omega) (h3:p<=q:=by first|omega|(simp;omega)) (h4:q<=l.length:=by first|omega|(simp;omega)):ue lo hi l sz k:=⟨p,q,h1,h2,h3,h4,hsz,a⟩
section
variable{P:Program}{τ:Tau}{n:Nat}{A B:AS}{c:Code}{K:Exit ->AS ->Prop}
theorem vf {f : FuncId} {fn : Func} {ps : List PV} {r : PV} (n : Nat) (rs : List ResultVar) (a : aS P τ) (g : P.funcs[f]? = some fn) (h : vx P τ n c ⟨qq' ps 0, []⟩ (sb τ rs r)) (hb : fn.body = some c := by rfl) (i : fn.ntmps = n := by rfl) (b : fn.results.toList = rs := by rfl) (d : ps.length <= n := by exact QX rfl) (e : (fn.name == "runtime.NumGoroutine") = false := by decide) : VC P f ps r := sf n rs a g hb i b d e h
theorem cR {f : FuncId} {fn : Func} {ps : List PV} {r : PV} (n : Nat) (rs : List ResultVar) (a : aS P τ) (g : P.funcs[f]? = some fn) (h : VCode P n c ⟨qq' ps 0, []⟩ (sb τ rs r)) (hb : fn.body = some c := by rfl) (i : fn.ntmps = n := by rfl) (b : fn.results.toList = rs := by rfl) (d : ps.length <= n := by exact QX rfl) (e : (fn.name == "runtime.NumGoroutine") = false := by decide) : VC P f ps r := uC n rs a g hb i b d e h
theorem mS {f : FuncId} {fn : Func} {ps : List PV} {e sz : Nat} {l : List (List PV)} (n : Nat) (rs : List ResultVar) (a : aS P τ) (i : P.funcs[f]? = some fn) (h : VCode P n c ⟨qq' ps 0, []⟩ (DC τ rs e sz l)) (hb : fn.body = some c := by rfl) (j : fn.ntmps = n := by rfl) (b : fn.results.toList = rs := by rfl) (d : ps.length <= n := by exact QX rfl) (g : (fn.name == "runtime.NumGoroutine") = false := by decide) : VO P f ps e sz l := Jz n rs a i hb j b d g h
theorem cJ {f : FuncId} {fn : Func} {aes : List AV} {m : List (Nat × SE)} {r : Except (List PanicEntry) (AV × List (Nat × SE))} (n : Nat) (rs : List ResultVar) (a : aS P τ) (g : P.funcs[f]? = some fn) (h : VCode P n c ⟨ja' aes 0, m⟩ (sd τ rs r)) (hb : fn.body = some c := by rfl) (i : fn.ntmps = n := by rfl) (b : fn.results.toList = rs := by rfl) (d : aes.length <= n := by exact QX rfl) (e : (fn.name == "runtime.NumGoroutine") = false := by decide) : VG P f aes m r := o6 n rs a g hb i b d e h
theorem JN {f : FuncId} {fn : Func} {ps : List PV} {T : Nat} {cs : List PV} (n : Nat) (rs : List ResultVar) (a : aS P τ) (g : P.funcs[f]? = some fn) (h : VCode P n c ⟨qq' ps 0, []⟩ (DD τ rs T cs)) (hb : fn.body = some c := by rfl) (i : fn.ntmps = n := by rfl) (b : fn.results.toList = rs := by rfl) (d : ps.length <= n := by exact QX rfl) (e : (fn.name == "runtime.NumGoroutine") = false := by decide) : VN P f ps T cs := JA n rs a g hb i b d e h
theorem nU {f : FuncId} {fn : Func} {ps : List PV} {r : Except (List PanicEntry) PV} (n : Nat) (rs : List ResultVar) (a : aS P τ) (g : P.funcs[f]? = some fn) (h : VCode P n c ⟨qq' ps 0, []⟩ (DE τ rs r)) (hb : fn.body = some c := by rfl) (i : fn.ntmps = n := by rfl) (b : fn.results.toList = rs := by rfl) (d : ps.length <= n := by exact QX rfl) (e : (fn.name == "runtime.NumGoroutine") = false := by decide) : VX P f ps r := JC n rs a g hb i b d e h
theorem aP {f : FuncId} {fn : Func} {T : Nat} {cs ps : List PV} {r : Except (List PanicEntry) (List PV × PV)} (n : Nat) (rs : List ResultVar) (a : aS P τ) (g : P.funcs[f]? = some fn) (h : VCode P n c ⟨(0, .c (.ptr 0 0)) :: qq' ps 1, [(0, .st 1 T (cs.map .p))]⟩ (se τ rs T r)) (hb : fn.body = some c := by rfl) (i : fn.ntmps = n := by rfl) (b : fn.results.toList = rs := by rfl) (d : ps.length + 1 <= n := by exact QX rfl) (e : (fn.name == "runtime.NumGoroutine") = false := by decide) : eW P f T cs ps r := JE n rs a g hb i b d e h
def qf(f:Nat ->Nat)(A l:List (Nat×AV)):Prop:=List.rec (motive:=λ_=>Prop) True (λp _ ih=>(look A p.1=some p.2/\p.2.ren f=p.2)/\ih) l
def sg(f:Nat ->Nat)(A l:List (Nat×SE)):Prop:=List.rec (motive:=λ_=>Prop) True (λp _ ih=>(look A p.1=some p.2/\(f p.1=p.1/\p.2.ren f=p.2))/\ih) l
def si(f:Nat ->Nat)(A l:List (Nat×AV)):Prop:=List.rec (motive:=λ_=>Prop) True (λp _ ih=>look A p.1=some (p.2.ren f)/\ih) l
def uD(f:Nat ->Nat)(A l:List (Nat×SE)):Prop:=List.rec (motive:=λ_=>Prop) True (λp _ ih=>look A (f p.1)=some (p.2.ren f)/\ih) l
structure LeQ(f:Nat ->Nat)(A:AS)(ch ce:List (Nat×AV))(bl cm:List (Nat×SE)):Prop where
 c:qf f A.e ce
 d:sg f A.m cm
 x:si f A.e ch
 y:uD f A.m bl
 i:da f (keysOf (bl++cm))=true
theorem JO{f:Nat ->Nat}{A:AS}{l r:List (Nat×AV)}(h1:si f A.e l)(h2:sa f A r):sa f A (l++r):=by
 induction l with
 |nil=>exact h2
 |cons p l a=>exact⟨h1.1,a h1.2⟩
theorem JP{f:Nat ->Nat}{A:AS}{l:List (Nat×AV)}(h1:qf f A.e l):sa f A l:=by
 induction l with
 |nil=>exact VQ
 |cons p l a=>exact⟨by rw[h1.1.2];exact h1.1.1,a h1.2⟩
theorem JR{f:Nat ->Nat}{A:AS}{l r:List (Nat×SE)}(h1:uD f A.m l)(h2:kI f A r):kI f A (l++r):=by
 induction l with
 |nil=>exact h2
 |cons p l a=>exact⟨h1.1,a h1.2⟩
theorem JS{f:Nat ->Nat}{A:AS}{l:List (Nat×SE)}(h1:sg f A.m l):kI f A l:=by
 induction l with
 |nil=>exact VQ
 |cons p l a=>exact⟨by rw[h1.1.2.1,h1.1.2.2];exact h1.1.1,a h1.2⟩
theorem LeQ.le{f:Nat ->Nat}{ch ce:List (Nat×AV)}{bl a:List (Nat×SE)}(h:LeQ f A ch ce bl a):Le f A ⟨ch++ce,bl++a⟩:=iu (JO h.x (JP h.c)) (JR h.y (JS h.d)) h.i
structure qg(σ:Type)(ch:σ ->List (Nat×AV))(bl:σ ->List (Nat×SE))(ce:List (Nat×AV))(cm:List (Nat×SE))(M:σ ->Prop)(m:σ ->Prop)(A:AS):Prop where
 go:∃y f,m y/\M y/\LeQ f A (ch y) ce (bl y) cm
theorem aw{σ:Type}{ch:σ ->List (Nat×AV)}{bl:σ ->List (Nat×SE)}{ce:List (Nat×AV)}{a:List (Nat×SE)}{M m:σ ->Prop}(y:σ)(h:M y)(f:Nat ->Nat:=id)(hm:m y:=by first|exact VQ|(show _<_;omega))(c:qf f A.e ce:=by repeat first|exact VQ|refine And.intro ⟨rfl,rfl⟩ ?_)(d:sg f A.m a:=by repeat first|exact VQ|refine And.intro ⟨rfl,rfl,rfl⟩ ?_)(x:si f A.e (ch y):=by repeat first|exact VQ|refine And.intro rfl ?_)(y':uD f A.m (bl y):=by repeat first|exact VQ|refine And.intro rfl ?_|refine And.intro (KG (λl=>some (SE.rw _ _ l)) (by first|(simp;done)|(simp[dN];rfl))) ?_)(i:da f (keysOf (bl y++a))=true:=by rfl):qg σ ch bl ce a M m A:=⟨y,f,hm,h,c,d,x,y',i⟩
theorem aB(b:aS P τ){σ:Type}(ce:List (Nat×AV))(a:List (Nat×SE))(ch:σ ->List (Nat×AV))(bl:σ ->List (Nat×SE))(M:σ ->Prop)(μ:σ ->Nat)(x0:σ)(i:M x0)(cf:∀x,M x ->VCode P n c ⟨ch x++ce,bl x++a⟩ (gp (qg σ ch bl ce a M λy=>μ y<μ x) K))(f:Nat ->Nat:=id)
  (c1:qf f A.e ce:=by repeat first|exact VQ|refine And.intro ⟨rfl,rfl⟩ ?_) (d1:sg f A.m a:=by repeat first|exact VQ|refine And.intro ⟨rfl,rfl,rfl⟩ ?_) (x1:si f A.e (ch x0):=by repeat first|exact VQ|refine And.intro rfl ?_) (y1:uD f A.m (bl x0):=by repeat first|exact VQ|refine And.intro rfl ?_) (j:da f (keysOf (bl x0++a))=true:=by rfl):VCode P n (.loop c) A K:=
 yS b (λx=>⟨ch x++ce,bl x++a⟩) M μ x0 f (LeQ.le ⟨c1,d1,x1,y1,j⟩) i λx k=>(cf x k).mono λe A p X q s w d g=>by
  cases e with
  |normal=>
   obtain⟨y,f,l,m,o⟩:=(show qg σ ch bl ce a M (λy=>μ y<μ x) A from d).go;exact⟨A,⟨y,f,l,m,o.le⟩,g⟩
  |_=>exact⟨A,d,g⟩
theorem vl(a:aS P τ){σ:Type}(ce:List (Nat×AV))(ch:σ ->List (Nat×AV))(M:σ ->Prop)(μ:σ ->Nat)(x0:σ)(b:M x0)(cf:∀x,M x ->vx P τ n c ⟨ch x++ce,[]++[]⟩ (gp (qg σ ch (λ_=>[]) ce [] M λy=>μ y<μ x) K))
  (c1:qf id A.e ce:=by repeat first|exact VQ|refine And.intro ⟨rfl,rfl⟩ ?_) (x1:si id A.e (ch x0):=by repeat first|exact VQ|refine And.intro rfl ?_):VCode P n (.loop c) A K:=
 aB a ce [] ch (λ_=>[]) M μ x0 b (λx d=>o5 a (cf x d)) id c1 VQ x1 VQ rfl
theorem VCode.blk{id:Nat}{x:Code}(h:VCode P n x A (r8 id K)):VCode P n (.block id x) A K:=by
 refine VCode.mk λp X q s w r=>?_;have o:=h.run p X q s w r;unfold EvCode at o ⊢;intro a t;refine wp_block (Go.wp_mono (o a t) λe y z u=>?_);obtain⟨g,b,i,k,f,d⟩:=u;cases e with
 |normal=>exact⟨g,b,i,k,f,d⟩
 |exit j=>
  simp only[Exit.inBlock];simp only[r8]at f
  by_cases m:j=id
  ·subst m
   rw[KX rfl];rw[Nat.beq_refl]at f;exact⟨g,b,i,k,f,d⟩
  ·rw[KY m]
   have:Nat.beq j id=false:=by
    cases v:Nat.beq j id with
    |true=>exact absurd (QJ v) m
    |false=>rfl
   rw[this]at f;exact⟨g,b,i,k,f,d⟩
 |goto l=>exact⟨g,b,i,k,f,d⟩
 |ret=>exact⟨g,b,i,k,f,d⟩
 |panic D=>exact⟨g,b,i,k,f,d⟩
 |outgrown=>exact⟨g,b,i,k,f,d⟩
theorem JT(d:aS P τ){a b:Code}(h:vx P τ n a A (gp (λe=>VCode P n b e K) K)):VCode P n (.seq a b) A K:=VCode.seq (o5 d h)
theorem eo(j:aS P τ){a b:Code}{σ:Type}(ce:List (Nat×AV))(i:List (Nat×SE))(ch:σ ->List (Nat×AV))(bl:σ ->List (Nat×SE))(M:σ ->Prop)(h1:vx P τ n a A (gp (qg σ ch bl ce i M λ_=>True) K))(h2:∀x,M x ->VCode P n b ⟨ch x++ce,bl x++i⟩ K)
  (c1:qf id A.e ce:=by repeat first|exact VQ|refine And.intro ⟨rfl,rfl⟩ ?_) (d1:sg id A.m i:=by repeat first|exact VQ|refine And.intro ⟨rfl,rfl,rfl⟩ ?_):VCode P n (.seq a b) A K:=by
 refine VCode.seq ((o5 j h1).mono λe A o X p s w d g=>?_);cases e with
 |normal=>
  obtain⟨x,f,_,k,m⟩:=(show qg σ ch bl ce i M (λ_=>True) A from d).go;exact⟨_,h2 x k,g.le m.le⟩
 |exit id=>exact⟨A,d,g⟩
 |goto l=>exact⟨A,d,g⟩
 |ret=>exact⟨A,d,g⟩
 |panic ch=>exact⟨A,d,g⟩
 |outgrown=>exact⟨A,d,g⟩
end
section
variable{P:Program}{τ:Tau}{n:Nat}{A:AS}{K:Exit ->AS ->Prop}{c:Code}
theorem nV(t k:Nat){e sz:Nat}{l:List (List PV)}(h:VCode P n c ((A.upd [] (bJ A [k])).upd [(t,.c (.p (.sl l)))] []) K)(g:look A.e t=some (.c (.row k)):=by rfl)(d:look A.m k=some (.rw e sz l):=by rfl):VCode P n c A K:=by
 refine h.of λz X D s w ⟨C,ρ,f⟩=>?_;obtain⟨v,i,a⟩:=f.slot t _ g (λj m=>⟨.rw e sz l,by
  have o:j=k:=by simpa[AV.refs,AC.refs]using m
  subst o;exact d,rfl⟩)
 obtain⟨q,r,E,u⟩:=f.frz [k] λ_ _=>rfl;have x:=u k Ud l (.inl ⟨e,sz,d⟩);have a:v=ρ k:=a;subst a;refine⟨q,ρ,r.slots (wr:=[(t,.c (.p (.sl l)))]) (λF b y _=>?_) λ_ _=>rfl⟩;obtain⟨rfl,rfl⟩:=bI y;exact⟨_,i,x⟩
theorem uE(j i k:Nat){e sz T:Nat}{g:Nat}{cs:List AC}{l:List (List PV)}(h:VCode P n c ((A.upd [] (bJ A [k])).upd [] [(j,.st g T (cs.set i (.p (.sl l))))]) K)(H:look A.m j=some (.st g T cs):=by rfl)(hi:cs[i]?=some (.row k):=by rfl)(v:look A.m k=some (.rw e sz l):=by rfl)(o:k≠j:=by decide):VCode P n c A K:=by
 refine h.of λw0 X C0 s w ⟨C,ρ,I⟩=>?_;obtain⟨L,y,h2,M⟩:=I.frz [k] λ_ _=>rfl;have N:=M k Ud l (.inl ⟨e,sz,v⟩);have f:look (A.upd [] (bJ A [k])).m j=some (.st g T cs):=by
  show look (bJ A [k]++A.m) j=_;rw[rx]
  ·exact H
  ·cases O:look (bJ A [k]) j with
   |none=>rfl
   |some x=>
    obtain⟨R,_⟩:=lB O;exact absurd (by simpa using R) (Ne.symm o)
 obtain⟨b,V,W,Y,g3,Z,D⟩:=y.ent j _ f;have r:Lv (A.upd [] (bJ A [k])) (AC.row k).refs:=λz hz=>by
  have ez:z=k:=by simpa[AC.refs]using hz
  subst ez;exact⟨.fz l,by
   show look (bJ A [z]++A.m) z=_;rw[lA,xV Ud v],rfl⟩
 exact⟨L,_,y.modSt (wr:=[]) (cs':=cs.set i (.p (.sl l))) (us':=V) f W ((Kp.refl [] w).weak Ud) Y (by simpa using Z) (λq c u d E=>by
  rw[List.getElem?_set]at d
  by_cases F:i=q
  ·subst F
   simp only[if_true]at d;split at d
   ·obtain rfl:=JB d
    obtain⟨o1,o2⟩:=D i _ u hi E;refine⟨o1,λ_=>?_⟩;have hr:u=ρ k:=o2 r;rw[hr];exact N
   ·cases d
  ·rw[KY F]at d
   exact D q c u d E) (s':=s) (λt a ha=>by cases ha) (λ_ _=>rfl)⟩
end
end Go.Wx
namespace Cd
structure Nd where
 op:Int
 a:Int
 b:Int
def rNd:Rd Nd where
 sz:=3
 den C cs x:=cs=[iV x.op,iV x.a,iV x.b]/\I64 x.op/\I64 x.a/\I64 x.b
 len:=by rintro C cs x ⟨rfl,_⟩;rfl
 mono:=by rintro C C' cs x hc h;exact h
 one:=by rintro C cs x ⟨rfl,_⟩ u hu;simp at hu;rcases hu with rfl|rfl|rfl<;>rfl
def iv{α:Type}(R:Rd α):Rd (List α) where
 sz:=1
 den C cs l:=∃a cap,cs=[.slice a l.length cap]/\l.length<=cap/\Sl R C a l
 len:=by rintro C cs x ⟨a,cap,rfl,_⟩;rfl
 mono:=by rintro C C' cs x hc ⟨a,cap,rfl,h',h⟩;exact⟨a,cap,rfl,h',h.mono hc⟩
 one:=by rintro C cs x ⟨a,cap,rfl,_⟩ u hu;simp at hu;subst hu;rfl
inductive Tr where
 |mk (n:Nd) (ks:List Tr)
def Tr.n:Tr ->Nd
 | .mk n _=>n
def Tr.ks:Tr ->List Tr
 | .mk _ ks=>ks
mutual
def row:Tr ->List Nd
 | .mk n ks=>n::rows ks
def rows:List Tr ->List Nd
 |[]=>[]
 |x::r=>row x++rows r
end
theorem aZ(x:Tr):0<(row x).length:=by
 cases x;simp[row]
theorem bF':∀(l m:List Tr),rows (l++m)=rows l++rows m
 |[],m=>rfl
 |x::r,m=>by simp[rows,bF' r m]
section
variable{σ:Type}(cnt:σ ->Nd ->Option Nat)(nx:σ ->Nd ->Nat ->σ)
def kidsL(p:σ ->List Nd ->Option (Tr×List Nd))(g:Nat ->σ):Nat ->Nat ->List Nd ->Option (List Tr×List Nd)
 |_,0,r=>some ([],r)
 |k,c+1,r=>match p (g k) r with
  |none=>none
  |some (x,r')=>match kidsL p g (k+1) c r' with
   |none=>none
   |some (xs,r'')=>some (x::xs,r'')
def parse:Nat ->σ ->List Nd ->Option (Tr×List Nd)
 |0,_,_=>none
 |_+1,_,[]=>none
 |f+1,s,n::r=>match cnt s n with
  |none=>none
  |some c=>match kidsL (parse f) (nx s n) 0 c r with
   |none=>none
   |some (ks,r')=>some (.mk n ks,r')
mutual
def okT:Tr ->σ ->Prop
 | .mk n ks,s=>cnt s n=some ks.length/\bC ks n s 0
def bC:List Tr ->Nd ->σ ->Nat ->Prop
 |[],_,_,_=>True
 |x::r,n,s,k=>okT x (nx s n k)/\bC r n s (k+1)
end
variable{cnt nx}
theorem DF{p:σ ->List Nd ->Option (Tr×List Nd)}{n:Nd}{s:σ}(d:∀s t x r,p s t=some (x,r) ->t=row x++r/\okT cnt nx x s):∀(c k:Nat) (t:List Nd) (ks:List Tr) (r:List Nd),kidsL p (nx s n) k c t=some (ks,r) ->t=rows ks++r/\ks.length=c/\bC cnt nx ks n s k
 |0,k,t,ks,r,h=>by
  simp only[kidsL,QZ,Prod.mk.injEq]at h;obtain⟨rfl,rfl⟩:=h;exact⟨rfl,rfl,trivial⟩
 |c+1,k,t,ks,r,h=>by
  simp only[kidsL]at h;split at h
  ·cases h
  rename_i x e f;split at h
  ·cases h
  rename_i g a b;simp only[QZ,Prod.mk.injEq]at h;obtain⟨rfl,rfl⟩:=h;obtain⟨i,j⟩:=d _ _ _ _ f;obtain⟨l,m,o⟩:=DF d c (k+1) e g a b;exact⟨by rw[i,l];simp[rows],by simp[m],j,o⟩
theorem cY':∀(f:Nat) (s:σ) (t:List Nd) (x:Tr) (r:List Nd),parse cnt nx f s t=some (x,r) ->t=row x++r/\okT cnt nx x s
 |0,s,t,x,r,h=>by simp[parse]at h
 |f+1,s,[],x,r,h=>by simp[parse]at h
 |f+1,s,n::t,x,r,h=>by
  simp only[parse]at h;split at h
  ·cases h
  rename_i c hc;split at h
  ·cases h
  rename_i ks a b;simp only[QZ,Prod.mk.injEq]at h;obtain⟨rfl,rfl⟩:=h;obtain⟨d,e,g⟩:=DF (cY' f) c 0 t ks a b;exact⟨by rw[d];simp[row],by rw[hc,e],g⟩
mutual
theorem fM':∀(x:Tr) (f:Nat) (s:σ) (r:List Nd),(row x).length<=f ->okT cnt nx x s ->parse cnt nx f s (row x++r)=some (x,r)
 | .mk n ks,0,s,r,a,_=>by simp[row]at a
 | .mk n ks,f+1,s,r,a,h=>by
  obtain⟨h1,h2⟩:=h;have:=qs' ks f n s 0 r (by simpa[row]using a) h2;simp only[row,List.cons_append,parse,h1,this]
theorem qs':∀(ks:List Tr) (f:Nat) (n:Nd) (s:σ) (k:Nat) (r:List Nd),(rows ks).length<=f ->bC cnt nx ks n s k ->kidsL (parse cnt nx f) (nx s n) k ks.length (rows ks++r)=some (ks,r)
 |[],f,n,s,k,r,_,_=>rfl
 |x::l,f,n,s,k,r,a,h=>by
  obtain⟨h1,h2⟩:=h;simp only[rows,JK]at a;have b:=fM' x f (nx s n k) (rows l++r) Uo h1;have d:=qs' l f n s (k+1) r Uo h2;simp only[rows,List.append_assoc,JV,kidsL,b,d]
end
theorem uF{f:Nat}{s:σ}{t:List Nd}{x:Tr}{r:List Nd}(h:parse cnt nx f s t=some (x,r)):t.length=(row x).length+r.length:=by
 rw[(cY' f s t x r h).1,JK]
theorem DG{f g:Nat}{s:σ}{t:List Nd}(d:t.length<=f)(e:t.length<=g):parse cnt nx f s t=parse cnt nx g s t:=by
 cases h:parse cnt nx f s t with
 |some p=>
  obtain⟨x,r⟩:=p;obtain⟨a,b⟩:=cY' _ _ _ _ _ h;subst a;exact(fM' x g s r (by simp at e;omega) b).symm
 |none=>
  cases i:parse cnt nx g s t with
  |none=>rfl
  |some p=>
   obtain⟨x,r⟩:=p;obtain⟨a,b⟩:=cY' _ _ _ _ _ i;subst a;rw[fM' x f s r (by simp at d;omega) b]at h;cases h
theorem J0{f:Nat}{s:σ}{t:List Nd}{a:Nat}(ha:a<=t.length){x:Tr}{r:List Nd}(h:parse cnt nx f s (t.drop a)=some (x,r)):r=t.drop (t.length-r.length)/\a<t.length-r.length/\r.length<=t.length/\(row x).length=t.length-r.length-a:=by
 obtain⟨b,_⟩:=cY' _ _ _ _ _ h;have d:=uF h;have g:=aZ x;rw[VK]at d;refine⟨?_,Uo,Uo,Uo⟩;have e:t.length-r.length=a+(row x).length:=Uo
 rw[e,<- List.drop_drop,b,List.drop_left]
def qh(s:σ)(t:List Nd):Option Tr:=match parse cnt nx t.length s t with
 |some (x,[])=>some x
 |_=>none
theorem J1{s:σ}{t:List Nd}{x:Tr}(h:qh (cnt:=cnt) (nx:=nx) s t=some x):t=row x/\okT cnt nx x s:=by
 unfold qh at h;split at h
 ·rename_i y a
  obtain rfl:=JB h;obtain⟨b,d⟩:=cY' _ _ _ _ _ a;exact⟨by rw[b];simp,d⟩
 ·cases h
theorem J2{s:σ}{x:Tr}(h:okT cnt nx x s):qh (cnt:=cnt) (nx:=nx) s (row x)=some x:=by
 unfold qh;have:=fM' x (row x).length s [] (KJ _) h;rw[JD]at this;rw[this]
end
mutual
def tB':Tr ->Nat
 | .mk _ ks=>1+kX' ks
def kX':List Tr ->Nat
 |[]=>0
 |x::r=>tB' x+kX' r
end
mutual
theorem AL':∀x:Tr,(row x).length=tB' x
 | .mk n ks=>by rw[row,tB',JV,rows_len ks];omega
theorem rows_len:∀l:List Tr,(rows l).length=kX' l
 |[]=>rfl
 |x::r=>by rw[rows,kX',JK,AL' x,rows_len r]
end
theorem J3(x:Tr):0<tB' x:=by
 cases x;simp only[tB'];omega
theorem kY':∀l:List Tr,l.length<=kX' l
 |[]=>KJ _
 |x::r=>by
  have:=kY' r;have:=J3 x;simp only[kX',JV];omega
end Cd
namespace Tm
open Cd
inductive Md where
 |tm|fn|am
def aX(x lo hi:Int):Bool:=decide (lo<=x) && decide (x<=hi)
theorem dE{x lo hi:Int}:aX x lo hi=true↔lo<=x/\x<=hi:=by simp[aX]
def aG(n:Nd):Bool:=
 if n.op=1 then aX n.a 0 1048576 && decide (n.b=0)
 else if n.op=2 then (decide (n.a=0)||decide (n.a=1)) && aX n.b 1 4
 else if n.op=3 then aX n.a 0 16 && aX n.b 0 1000
 else if n.op=4 \/n.op=5 \/n.op=6 \/n.op=7 then decide (n.a=0) && decide (n.b=0)
 else if n.op=8 \/n.op=9 then aX n.a 0 63 && decide (n.b=0)
 else if n.op=10 then aX n.a 0 63 && aX n.b 0 15
 else if n.op=11 then aX n.a 0 63 && aX n.b 0 16
 else if n.op=12 then aX n.b 1 4 && aX n.a 0 (n.b-1)
 else if n.op=13 then aX n.a 0 15 && decide (n.b=0)
 else false
def bv(n:Nd):Int:=if n.op=4 \/n.op=5 \/n.op=6 \/n.op=13 then 2 else if n.op=7 then 3 else if n.op=11 then 2+n.b else if n.op=12 then n.b else 0
def cnt:Md ->Nd ->Option Nat
 | .tm,n=>if aG n=true/\n.op≠3/\n.op≠13 then some (if n.op=2 then n.b.toNat else (bv n).toNat)else none
 | .fn,n=>if n.op=13/\aG n=true then some 2 else none
 | .am,n=>if n.op=3/\aG n=true then some 0 else none
def nx:Md ->Nd ->Nat ->Md
 | .tm,n,_=>if n.op=2 then .am else if n.op=12 then .fn else .tm
 | .fn,_,_=>.tm
 | .am,_,_=>.am
def rS':Int ->List Tr ->Bool
 |_,[]=>true
 |last,x::r=>decide (last<x.n.a) && rS' x.n.a r
mutual
def gQ':Tr ->Bool
 | .mk n ks=>(if n.op=2 then rS' (-1) ks else true) && fc' ks
def fc':List Tr ->Bool
 |[]=>true
 |x::r=>gQ' x && fc' r
end
def endS(t:List Nd)(s:Md)(a:Nat):Option Nat:=match parse cnt nx t.length s (t.drop a)with
 |some (x,r)=>if gQ' x=true then some (t.length-r.length)else none
 |none=>none
def gW(t:List Nd)(s:Md):Nat ->Nat ->Option Nat
 |0,a=>some a
 |c+1,a=>match endS t s a with
  |none=>none
  |some a'=>gW t s c a'
def gX(t:List Nd):Nat ->Int ->Nat ->Option Nat
 |0,_,a=>some a
 |c+1,last,a=>match t[a]? with
  |some m=>if m.op=3/\aG m=true/\last<m.a then gX t c m.a (a+1)else none
  |none=>none
theorem DH{f g:Nat}(s:Nat ->Md):∀(c k:Nat) (r:List Nd),r.length<=f ->r.length<=g ->kidsL (parse cnt nx f) s k c r=kidsL (parse cnt nx g) s k c r
 |0,k,r,_,_=>rfl
 |c+1,k,r,a,b=>by
  simp only[kidsL];rw[DG (cnt:=cnt) (nx:=nx) (s:=s k) a b];cases h:parse cnt nx g (s k) r with
  |none=>rfl
  |some q=>
   obtain⟨x,d⟩:=q;have:=uF h;simp only;rw[DH (f:=f) (g:=g) s c (k+1) d Uo Uo]
theorem DI(t:List Nd)(s:Md):∀(c k a:Nat),a<=t.length ->gW t s c a=match kidsL (parse cnt nx t.length) (λ_=>s) k c (t.drop a)with
  |some (ks,r)=>if fc' ks=true then some (t.length-r.length)else none
  |none=>none
 |0,k,a,ha=>by simp[gW,kidsL,fc'];omega
 |c+1,k,a,ha=>by
  simp only[gW,kidsL,endS];cases h:parse cnt nx t.length s (t.drop a)with
  |none=>rfl
  |some q=>
   obtain⟨x,r⟩:=q;obtain⟨d,e,f,_⟩:=J0 ha h;simp only
   by_cases b:gQ' x=true
   ·rw[KX b]
    simp only;rw[DI t s c (k+1) (t.length-r.length) Uo,<- d];cases kidsL (parse cnt nx t.length) (λ_=>s) (k+1) c r with
    |none=>rfl
    |some q=>simp[fc',b]
   ·rw[KY b]
    simp only;cases kidsL (parse cnt nx t.length) (λ_=>s) (k+1) c r with
    |none=>rfl
    |some q=>simp[fc',b]
theorem DJ(t:List Nd)(s:Md){a:Nat}{n:Nd}(b:t[a]?=some n){c:Nat}(hc:cnt s n=some c):
  endS t s a=match kidsL (parse cnt nx t.length) (nx s n) 0 c (t.drop (a+1))with
  |some (ks,r)=>if gQ' (.mk n ks)=true then some (t.length-r.length)else none
  |none=>none:=by
 have i:=aM b;obtain⟨x,d,j⟩:=ay i;rw[b]at d;obtain rfl:=JB d;have k:(t.drop (a+1)).length<=t.length:=Ud
 unfold endS;rw[j];have e:t.length=(t.length-1)+1:=Uo
 rw[show parse cnt nx t.length s (n::t.drop (a+1))=parse cnt nx ((t.length-1)+1) s (n::t.drop (a+1)) by rw[<- e]];simp only[parse,hc];have l:=DH (f:=t.length-1) (g:=t.length) (nx s n) c 0 (t.drop (a+1)) Uk k;rw[l];cases kidsL (parse cnt nx t.length) (nx s n) 0 c (t.drop (a+1))with
 |none=>rfl
 |some q=>rfl
theorem uG(t:List Nd)(s:Md){a:Nat}(h:∀n,t[a]?=some n ->cnt s n=none):endS t s a=none:=by
 by_cases b:a<t.length
 ·obtain⟨n,d,f⟩:=ay b
  unfold endS;rw[f];have e:t.length=(t.length-1)+1:=Uo
  rw[show parse cnt nx t.length s (n::t.drop (a+1))=parse cnt nx ((t.length-1)+1) s (n::t.drop (a+1)) by rw[<- e]];simp only[parse,h n d]
 ·unfold endS
  rw[JY Uo];cases t.length<;>simp[parse]
theorem sj(t:List Nd)(s:Md){a:Nat}{n:Nd}(d:t[a]?=some n){c:Nat}(hc:cnt s n=some c)(h2:s= .tm ->n.op≠2){s':Md}(e:∀k,nx s n k=s')(b:n.op≠2):endS t s a=gW t s' c (a+1):=by
 have f:=aM d;rw[DJ t s d hc,DI t s' c 0 (a+1) Uo,show nx s n=λ_=>s' from funext e];cases kidsL (parse cnt nx t.length) (λ_=>s') 0 c (t.drop (a+1))with
 |none=>rfl
 |some q=>simp[gQ',b]
theorem DK(t:List Nd):∀(c k:Nat) (b:Int) (a:Nat),a<=t.length ->gX t c b a=match kidsL (parse cnt nx t.length) (λ_=>Md.am) k c (t.drop a)with
  |some (ks,r)=>if rS' b ks=true/\fc' ks=true then some (t.length-r.length)else none
  |none=>none
 |0,k,b,a,ha=>by simp[gX,kidsL,rS',fc'];omega
 |c+1,k,b,a,ha=>by
  simp only[gX,kidsL]
  by_cases f:a<t.length
  ·obtain⟨n,g,i⟩:=ay f
   have e:t.length=(t.length-1)+1:=Uo
   have j:parse cnt nx t.length .am (t.drop a)=if n.op=3/\aG n=true then some (.mk n [],t.drop (a+1))else none:=by
    skip
    rw[i,show parse cnt nx t.length .am (n::t.drop (a+1))=parse cnt nx ((t.length-1)+1) .am (n::t.drop (a+1)) by rw[<- e]];simp only[parse,cnt]
    by_cases h:n.op=3/\aG n=true
    ·simp only[KX h,kidsL]
    ·simp only[KY h]
   rw[g];simp only[j]
   by_cases h:n.op=3/\aG n=true
   ·rw[KX h]
    simp only;have l:n.op≠2:=by rw[h.1];decide
    by_cases d:b<n.a
    ·rw[KX ⟨h.1,h.2,d⟩,DK t c (k+1) n.a (a+1) Uo]
     cases kidsL (parse cnt nx t.length) (λ_=>Md.am) (k+1) c (t.drop (a+1))with
     |none=>rfl
     |some q=>simp[rS',fc',gQ',Tr.n,d,l]
    ·rw[KY λq=>d q.2.2]
     cases kidsL (parse cnt nx t.length) (λ_=>Md.am) (k+1) c (t.drop (a+1))with
     |none=>rfl
     |some q=>simp[rS',Tr.n,d]
   ·rw[KY h,KY λq=>h ⟨q.1,q.2.1⟩]
  ·rw[QF Uo]
   have:parse cnt nx t.length .am (t.drop a)=none:=by
    skip
    rw[JY Uo];cases t.length<;>simp[parse]
   simp only[this]
theorem DL(t:List Nd){a:Nat}{n:Nd}(b:t[a]?=some n)(h2:n.op=2)(d:aG n=true):endS t .tm a=gX t n.b.toNat (-1) (a+1):=by
 have f:=aM b;have e:cnt .tm n=some n.b.toNat:=by simp[cnt,d,h2]
 rw[DJ t .tm b e,DK t n.b.toNat 0 (-1) (a+1) Uo,show nx .tm n=λ_=>Md.am from funext λk=>by simp[nx,h2]];cases kidsL (parse cnt nx t.length) (λ_=>Md.am) 0 n.b.toNat (t.drop (a+1))with
 |none=>rfl
 |some q=>simp[gQ',h2]
theorem DM{t:List Nd}{s:Md}{a e:Nat}(h:endS t s a=some e):a<e/\e<=t.length:=by
 unfold endS at h;split at h
 ·rename_i x r b
  split at h
  ·obtain rfl:=JB h
   have d:=uF b;have f:=aZ x;rw[VK]at d;omega
  ·cases h
 ·cases h
def Ok(s:Md)(x:Tr):Prop:=okT cnt nx x s/\gQ' x=true
def nW(t:List Nd):Option Tr:=match qh (cnt:=cnt) (nx:=nx) Md.tm t with
 |some x=>if gQ' x=true then some x else none
 |none=>none
theorem DN{t:List Nd}{x:Tr}(h:nW t=some x):t=row x/\Ok .tm x:=by
 unfold nW at h;split at h
 ·rename_i y a
  split at h
  ·rename_i b
   obtain rfl:=JB h;obtain⟨d,e⟩:=J1 a;exact⟨d,e,b⟩
  ·cases h
 ·cases h
theorem DO{x:Tr}(h:Ok .tm x):nW (row x)=some x:=by
 unfold nW;rw[J2 h.1];simp[h.2]
theorem J4{s:Md}{x:Tr}(h:Ok s x)(p q:List Nd):endS (p++(row x++q)) s p.length=some (p.length+(row x).length):=by
 unfold endS;rw[List.drop_left,fM' x _ s q Uk h.1];simp only[h.2,if_true]
 congr 1
 simp;omega
theorem DP(t:List Nd):endS t .tm 0=some t.length↔(nW t).isSome:=by
 unfold endS nW qh;rw[List.drop_zero];cases h:parse cnt nx t.length Md.tm t with
 |none=>simp
 |some q=>
  obtain⟨x,r⟩:=q;have b:=uF h;have d:=aZ x;cases r with
  |nil=>by_cases a:gQ' x=true<;>simp[a]
  |cons y r=>
   simp only[JV]at b
   by_cases a:gQ' x=true
   ·simp[a];omega
   ·simp[a]
open Go Go.Wx Cd
def bh(n:Nd)(k:Int):Int:=if ((n.op=4 \/n.op=5)/\k=1) \/(n.op=7/\k=2)then 1 else 0
def arC(n:Nd)(nb:Int)(k:Int):Int:=if n.op=13 then (if k=1 then nb else 0)else bh n k
theorem mU{n:Nd}(h:n.op≠13)(nb k:Int):arC n nb k=bh n k:=by simp[arC,h]
section
variable{S:Type}(one:S ->Nd ->Int ->Option S)(raw:S ->Nd ->S)
mutual
def wT:Tr ->Int ->Int ->S ->Option S
 | .mk n ks,d,nb,s=>match (if n.op=3 \/n.op=13 then some (raw s n)else one s n d)with
  |none=>none
  |some s1=>wK ks n nb 0 d s1
def wK:List Tr ->Nd ->Int ->Int ->Int ->S ->Option S
 |[],_,_,_,_,s=>some s
 |x::r,n,nb,k,d,s=>match wT x (d+arC n nb k) n.b s with
  |none=>none
  |some s1=>wK r n nb (k+1) d s1
end
end
def cM{U:Type}(s:U×List Nd)(n:Nd):U×List Nd:=(s.1,s.2++[n])
theorem DR{U:Type}(one:U×List Nd ->Nd ->Int ->Option (U×List Nd)):∀(ks:List Tr) (n:Nd) (nb k d:Int) (s:U×List Nd),bC cnt nx ks n .tm k.toNat ->n.op=2 ->wK one cM ks n nb k d s=some (s.1,s.2++rows ks)
 |[],n,nb,k,d,s,_,_=>by simp[wK,rows]
 | .mk m l::r,n,nb,k,d,s,h,h2=>by
  obtain⟨h3,h4⟩:=h;have b:cnt .am m=some l.length:=by
   have:=h3.1
   rwa [show nx Md.tm n k.toNat= .am by simp[nx,h2]]at this
  have e:m.op=3/\l=[]:=by
   simp only[cnt]at b;split at b
   ·rename_i q
    exact⟨q.1,List.length_eq_zero_iff.1 (JB b).symm⟩
   ·cases b
  obtain⟨f,rfl⟩:=e;have g:∀a,bC cnt nx r n .tm a:=by
   have:∀(r:List Tr) (k a:Nat),bC cnt nx r n .tm k ->bC cnt nx r n .tm a:=by
    intro r
    induction r with
    |nil=>intros;trivial
    |cons y r i=>
     intro k a q;refine⟨?_,i _ _ q.2⟩;have:=q.1
     rwa [show nx Md.tm n k=nx Md.tm n a from rfl]at this
   exact λa=>this r _ a h4
  simp only[wK,wT,f,true_or,if_true,cM];rw[DR one r n nb (k+1) d _ (g _) h2];simp[rows,row]
theorem yT{n:Nd}{s:Md}:∀{r:List Tr} {k:Nat} (a:Nat),bC cnt nx r n s k ->bC cnt nx r n s a
 |[],_,_,_=>trivial
 |y::r,k,a,q=>by
  refine⟨?_,yT (r:=r) _ q.2⟩;have:=q.1;cases s<;>exact this
theorem o7{x:Tr}{r:List Tr}(h:fc' (x::r)=true):gQ' x=true/\fc' r=true:=by simpa[fc']using h
theorem Ok.kids{n:Nd}{ks:List Tr}{s:Md}(h:Ok s (.mk n ks)):cnt s n=some ks.length/\bC cnt nx ks n s 0/\fc' ks=true:=by
 obtain⟨⟨b,d⟩,a⟩:=h;refine⟨b,d,?_⟩;simp only[gQ',Bool.and_eq_true]at a;exact a.2
theorem kJ{n:Nd}{s:Md}{x:Tr}{r:List Tr}{k:Nat}(h:bC cnt nx (x::r) n s k)(hi:fc' (x::r)=true):Ok (nx s n 0) x/\bC cnt nx r n s k/\fc' r=true:=by
 have a:=h.1;rw[show nx s n k=nx s n 0 by cases s<;>rfl]at a;exact⟨⟨a,(o7 hi).1⟩,yT _ h.2,(o7 hi).2⟩
section
variable{U:Type}{one:U×List Nd ->Nd ->Int ->Option (U×List Nd)}
mutual
theorem DS{G:Nat}(g:1<=G)(h:∀u l n d b l',one (u,l) n d=some (b,l') ->l'.length<=l.length+G):∀(x:Tr) (d nb:Int) (u:U) (l:List Nd) (b:U) (l':List Nd),wT one cM x d nb (u,l)=some (b,l') ->l'.length<=l.length+G*(row x).length
 | .mk n ks,d,nb,u,l,b,l',e=>by
  simp only[wT]at e;split at e
  ·cases e
  ·rename_i i a
   obtain⟨j,f⟩:=i;have k:f.length<=l.length+G:=by
    split at a
    ·simp only[cM,QZ,Prod.mk.injEq]at a
     rw[<- a.2];simp;omega
    ·exact h _ _ _ _ _ _ a
   have m:=DT g h ks n nb 0 d j f b l' e;simp only[row,JV,Nat.mul_add];omega
theorem DT{G:Nat}(f:1<=G)(h:∀u l n d a l',one (u,l) n d=some (a,l') ->l'.length<=l.length+G):∀(ks:List Tr) (n:Nd) (nb k d:Int) (u:U) (l:List Nd) (a:U) (l':List Nd),wK one cM ks n nb k d (u,l)=some (a,l') ->l'.length<=l.length+G*(rows ks).length
 |[],n,nb,k,d,u,l,a,l',e=>by
  simp only[wK,QZ,Prod.mk.injEq]at e;rw[e.2];simp[rows]
 |x::r,n,nb,k,d,u,l,a,l',e=>by
  simp only[wK]at e;split at e
  ·cases e
  ·rename_i j b
   obtain⟨g,i⟩:=j;have m:=DS f h x _ _ u l g i b;have o:=DT f h r n nb (k+1) d g i a l' e;simp only[rows,JK,Nat.mul_add];omega
end
theorem yU{x:Tr}(h:x.n.op≠13)(d nb a:Int)(s:U×List Nd):wT one cM x d nb s=wT one cM x d a s:=by
 obtain⟨n,e⟩:=x;simp only[Tr.n]at h;simp only[wT];split
 ·rfl
 ·rename_i f _
  have:∀(r:List Tr) (k:Int) (s:U×List Nd),wK one cM r n nb k d s=wK one cM r n a k d s:=by
   intro r
   induction r with
   |nil=>intros;rfl
   |cons y r b=>
    intro k s;simp only[wK,mU h,b]
  exact this _ _ _
end
theorem fq{n:Nd}{c:Nat}(h:cnt .tm n=some c):aG n=true/\n.op≠3/\n.op≠13/\c=if n.op=2 then n.b.toNat else (bv n).toNat:=by
 simp only[cnt]at h;split at h
 ·rename_i q
  exact⟨q.1,q.2.1,q.2.2,(JB h).symm⟩
 ·cases h
theorem o8{n:Nd}{c:Nat}(h:cnt .fn n=some c):aG n=true/\n.op=13/\c=2:=by
 simp only[cnt]at h;split at h
 ·rename_i q
  exact⟨q.2,q.1,(JB h).symm⟩
 ·cases h
theorem Ok.tm{n:Nd}{ks:List Tr}(h:Ok .tm (.mk n ks)):aG n=true/\n.op≠3/\n.op≠13:=by
 obtain⟨d,_⟩:=h.kids;obtain⟨a,b,c,_⟩:=fq d;exact⟨a,b,c⟩
theorem Ok.fn{x:Tr}(h:Ok .fn x):∃f ty bo,x= .mk f [ty,bo]/\f.op=13/\aG f=true/\Ok .tm ty/\Ok .tm bo:=by
 obtain⟨f,d⟩:=x;obtain⟨e,g,i⟩:=h.kids;obtain⟨a,b,c⟩:=o8 e
 match d,c with
 |[ty,bo],_=>
  obtain⟨j,k,l⟩:=kJ g i;obtain⟨m,_,_⟩:=kJ k l;exact⟨f,ty,bo,rfl,b,a,j,m⟩
theorem qv':∀{ks:List Tr} {n:Nd},n.op=2 ->bC cnt nx ks n .tm 0 ->(rows ks).length=ks.length
 |[],n,_,_=>rfl
 | .mk m l::r,n,h2,h=>by
  obtain⟨h3,h4⟩:=h;have a:cnt .am m=some l.length:=by
   have:=h3.1
   rwa [show nx Md.tm n 0= .am by simp[nx,h2]]at this
  have b:l=[]:=by
   simp only[cnt]at a;split at a
   ·exact List.length_eq_zero_iff.1 (JB a).symm
   ·cases a
  subst b;have:=qv' h2 (yT 0 h4);simp[rows,row,this]
theorem dn{n:Nd}(h:aG n=true):0<=n.b/\n.b<=1000/\0<=n.a/\n.a<=1048576:=by
 simp only[aG]at h
 repeat' split at h
 all_goals first|(simp[aX]at h;omega)|contradiction
theorem yV(n:Nd)(k:Int):0<=bh n k/\bh n k<=1:=by
 unfold bh;split<;>omega
section
variable(h:Int ->Nd ->Option Tr)
mutual
def gT:Tr ->Int ->Int ->Option Tr
 | .mk n ks,d,nb=>if n.op=1 then h d n else match gK ks n nb 0 d with
  |none=>none
  |some ks'=>some (.mk n ks')
def gK:List Tr ->Nd ->Int ->Int ->Int ->Option (List Tr)
 |[],_,_,_,_=>some []
 |x::r,n,nb,k,d=>match gT x (d+arC n nb k) n.b with
  |none=>none
  |some y=>match gK r n nb (k+1) d with
   |none=>none
   |some r'=>some (y::r')
end
def iO{U:Type}(s:U×List Nd)(n:Nd)(d:Int):Option (U×List Nd):=if n.op=1 then match h d n with
  |none=>none
  |some y=>some (s.1,s.2++row y)
 else some (s.1,s.2++[n])
end
section
variable{h:Int ->Nd ->Option Tr}{U:Type}
theorem qj{n:Nd}{s:Md}{c:Nat}(hc:cnt s n=some c)(h1:n.op=1):c=0:=by
 cases s with
 |tm=>
  obtain⟨_,_,_,e⟩:=fq hc;rw[e];simp[h1,bv]
 |fn=>
  obtain⟨_,e,_⟩:=o8 hc;omega
 |am=>
  simp only[cnt]at hc;split at hc
  ·rename_i q
   omega
  ·cases hc
mutual
theorem Hd':∀(x:Tr) (s:Md) (d nb:Int) (u:U) (l:List Nd),okT cnt nx x s ->wT (iO h) cM x d nb (u,l)=match gT h x d nb with
  |none=>none
  |some y=>some (u,l++row y)
 | .mk n ks,s,d,nb,u,l,b=>by
  obtain⟨hc,f⟩:=b
  by_cases a:n.op=1
  ·have:ks=[]:=List.length_eq_zero_iff.1 (qj hc a)
   subst this;simp only[wT,gT,iO,a,if_true];rw[KY UO];cases h d n with
   |none=>rfl
   |some y=>simp[wK]
  ·simp only[wT,gT,iO,KY a,cM]
   have e:(if n.op=3 \/n.op=13 then some (u,l++[n])else some (u,l++[n]))=some (u,l++[n]):=by split<;>rfl
   rw[e];simp only;rw[wK_g ks n s nb 0 d 0 u (l++[n]) f];cases gK h ks n nb 0 d with
   |none=>rfl
   |some g=>simp[row]
theorem wK_g:∀(ks:List Tr) (n:Nd) (s:Md) (nb k d:Int) (j:Nat) (u:U) (l:List Nd),bC cnt nx ks n s j ->wK (iO h) cM ks n nb k d (u,l)=match gK h ks n nb k d with
  |none=>none
  |some a=>some (u,l++rows a)
 |[],n,s,nb,k,d,j,u,l,_=>by simp[wK,gK,rows]
 |x::r,n,s,nb,k,d,j,u,l,b=>by
  obtain⟨e,hr⟩:=b;simp only[wK,gK];rw[Hd' x (nx s n j) _ _ u l e];cases gT h x (d+arC n nb k) n.b with
  |none=>rfl
  |some y=>
   simp only;rw[wK_g r n s nb (k+1) d (j+1) u (l++row y) hr];cases gK h r n nb (k+1) d with
   |none=>rfl
   |some f=>simp[rows,List.append_assoc]
end
mutual
theorem yW(k:∀d n y,aG n=true ->n.op=1 ->h d n=some y ->Ok .tm y):∀(x:Tr) (s:Md) (d nb:Int) (y:Tr),Ok s x ->gT h x d nb=some y ->Ok s y/\(x.n.op≠1 ->y.n=x.n)
 | .mk n ks,s,d,nb,y,l,e=>by
  obtain⟨hc,m,hi⟩:=l.kids
  by_cases b:n.op=1
  ·simp only[gT,b,if_true]at e
   have f:s= .tm:=by
    cases s with
    |tm=>rfl
    |fn=>
     obtain⟨_,e,_⟩:=o8 hc;omega
    |am=>
     simp only[cnt]at hc;split at hc
     ·rename_i q
      omega
     ·cases hc
   subst f;obtain⟨o,_⟩:=fq hc;exact⟨k d n y o b e,λq=>absurd b q⟩
  ·simp only[gT,KY b]at e
   split at e
   ·cases e
   rename_i g i;obtain rfl:=JB e;obtain⟨p,r,t,u⟩:=DU k ks n s nb 0 d 0 g m hi i;refine⟨⟨⟨by rw[hc,p],r⟩,?_⟩,λ_=>rfl⟩;simp only[gQ',t,Bool.and_true]
   by_cases j:n.op=2
   ·have a:=l.2
    simp only[gQ',KX j,Bool.and_eq_true]at a ⊢;have f:nx s n 0= .am:=by
     cases s with
     |tm=>simp[nx,j]
     |fn=>
      obtain⟨_,e,_⟩:=o8 hc;omega
     |am=>rfl
    exact u f (-1) a.1
   ·simp[j]
theorem DU(p:∀d n y,aG n=true ->n.op=1 ->h d n=some y ->Ok .tm y):∀(ks:List Tr) (n:Nd) (s:Md) (nb k d:Int) (j:Nat) (a:List Tr),bC cnt nx ks n s j ->fc' ks=true ->gK h ks n nb k d=some a ->ks.length=a.length/\bC cnt nx a n s j/\fc' a=true/\(nx s n 0= .am ->∀b,rS' b ks=true ->rS' b a=true)
 |[],n,s,nb,k,d,j,a,_,_,e=>by
  simp only[gK,QZ]at e;subst e;exact⟨rfl,trivial,rfl,λ_ _ h=>h⟩
 |x::r,n,s,nb,k,d,j,a,v,hi,e=>by
  obtain⟨t,hr⟩:=v;obtain⟨w,z⟩:=o7 hi;simp only[gK]at e;split at e
  ·cases e
  rename_i y D;split at e
  ·cases e
  rename_i E g;obtain rfl:=JB e;obtain⟨⟨F,H⟩,I⟩:=yW p x (nx s n j) _ _ y ⟨t,w⟩ D;obtain⟨L,M,N,O⟩:=DU p r n s nb (k+1) d (j+1) E hr z g;refine⟨by simp[L],⟨F,M⟩,by simp[fc',H,N],λu b i=>?_⟩;simp only[rS',Bool.and_eq_true,decide_eq_true_eq]at i ⊢;have o:x.n.op≠1:=by
   obtain⟨m,l⟩:=x;have f:=t.1;rw[show nx s n j= .am by rw[<- u];cases s<;>rfl]at f;simp only[cnt]at f;split at f
   ·rename_i q
    simp only[Tr.n];omega
   ·cases f
  rw[I o];exact⟨i.1,O u _ i.2⟩
end
end
def gr(by_ fr:Int)(d:Int)(n:Nd):Option Tr:=if fr+d<=n.a then (if by_>1048576-n.a then none else some (.mk {n with a:=n.a+by_} []))else some (.mk n [])
def lG(x:Tr)(by_ fr:Int):Option Tr:=gT (gr by_ fr) x 0 0
theorem o9{n:Nd}(h1:n.op=1)(ha:0<=n.a)(a:n.a<=1048576)(hb:n.b=0):Ok .tm (.mk n []):=by
 refine⟨⟨?_,trivial⟩,by simp[gQ',fc',h1]⟩;have:aG n=true:=by simp[aG,h1,aX,ha,a,hb]
 simp[cnt,this,h1,bv]
theorem DV{by_ fr d:Int}{n:Nd}{y:Tr}(hb:0<=by_)(b:aG n=true)(h1:n.op=1)(e:gr by_ fr d n=some y):Ok .tm y:=by
 have a:aX n.a 0 1048576=true/\n.b=0:=by simpa[aG,h1]using b
 have:=dE.1 a.1;simp only[gr]at e;split at e
 ·split at e
  ·cases e
  ·obtain rfl:=JB e
   exact o9 (by simpa using h1) Us Us a.2
 ·obtain rfl:=JB e
  exact o9 h1 this.1 this.2 a.2
theorem J5{x y:Tr}{by_ fr:Int}(hb:0<=by_)(a:Ok .tm x)(e:lG x by_ fr=some y):Ok .tm y:=
 (yW (λd n y b f e=>DV hb b f e) x .tm 0 0 y a e).1
end Tm
namespace Go.Q
def τ:Tau where
 tab:=[(26,[(0,1,false),(1,1,false),(2,1,false),(3,1,false),(4,1,false)],[0,2,2,0,2]),(31,[(0,5,true),(5,1,false),(6,1,false),(7,1,false)],[0,2,2,0,2,2,2,0]),(46,[(0,1,false),(1,1,false),(2,1,false)],[0,0,0]),(70,[(0,1,false),(1,1,false),(2,1,false),(3,1,false),(4,1,false),(5,1,false),(6,1,false)],[0,2,2,2,2,2,2]),(75,[(0,1,false),(1,1,false)],[2,2]),(78,[(0,1,false),(1,1,false)],[0,2]),(87,[(0,1,false),(1,1,false)],[2,2]),(89,[(0,1,false)],[0]),(93,[(0,5,true),(5,1,false),(6,1,false)],[0,2,2,0,2,0,2]),(103,[(0,5,true),(5,1,false),(6,1,false)],[0,2,2,0,2,0,0]),(110,[(0,5,true),(5,1,false),(6,1,false)],[0,2,2,0,2,0,0]),(117,[(0,1,false),(1,1,false)],[0,0]),(145,[(0,3,true),(3,1,false),(4,1,false),(5,1,false)],[0,0,0,2,2,2]),(178,[(0,1,false),(1,1,false),(2,1,false)],[0,0,0]),(191,[(0,1,false),(1,1,false)],[2,2]),(220,[(0,1,false),(1,1,false)],[0,0]),(234,[(0,1,false),(1,1,false)],[0,0]),(242,[(0,1,false)],[0]),(245,[(0,5,true),(5,1,false),(6,1,false)],[0,2,2,0,2,2,0]),(259,[(0,5,true),(5,1,false)],[0,2,2,0,2,0]),(267,[(0,1,false)],[0]),(308,[(0,5,true),(5,1,false)],[0,2,2,0,2,2]),(317,[(0,5,true),(5,1,false),(6,1,false),(7,1,false)],[0,2,2,0,2,2,0,0])]
 ones:=[(3,0),(4,1),(5,7),(9,9),(22,2),(23,2),(24,2),(27,2),(28,2),(29,2),(34,2),(35,0),(40,2),(50,2),(59,3),(62,3),(67,2),(68,2),(91,2),(94,2),(129,2),(132,6),(133,2),(136,2),(143,2),(150,2),(169,4),(176,4),(189,3),(199,11),(206,3),(229,2),(237,2),(254,11),(260,2),(284,4),(302,2),(304,2),(309,2),(310,0),(315,3),(322,0),(334,11),(338,3),(61,5),(82,5),(115,5),(123,5),(173,5),(187,5),(195,5),(208,5),(210,5),(240,5),(288,5),(347,5)]
 slcs:=[(22,178,3,24),(23,70,7,152),(24,117,2,16),(27,87,2,48),(28,46,3,24),(29,46,3,24),(34,46,3,24),(40,4,1,1),(50,5,1,1),(67,29,1,24),(68,75,2,48),(91,78,2,32),(94,87,2,48),(129,132,1,4),(133,34,1,24),(136,3,1,8),(143,145,6,96),(150,220,2,16),(229,3,1,8),(237,173,1,8),(260,87,2,48),(302,67,1,24),(304,150,1,24),(309,310,1,8)]
theorem τok:aS prog τ:=H5 UD
theorem aj{n:Nat}{A:AS}{K:Exit ->AS ->Prop}{c:Code}(h:vx Go.Proofs.Tryz.prog Go.Q.τ n c A K):VCode Go.Proofs.Tryz.prog n c A K:=o5 Go.Q.τok h
theorem aD{n:Nat}{A:AS}{K:Exit ->AS ->Prop}{a b:Code}(h:vx Go.Proofs.Tryz.prog Go.Q.τ n a A (gp (λd=>VCode Go.Proofs.Tryz.prog n b d K) K)):VCode Go.Proofs.Tryz.prog n (.seq a b) A K:=JT Go.Q.τok h
open Go.Wx Cd Tm
abbrev iw(n:Nd):Value:=.agg #[iV n.op,iV n.a,iV n.b]
def opI:Option Nat ->Int
 |some n=>n
 |none=>-1
section
variable{C:Mem}
def ql(t:List Nd)(i:Int):Int:=if i<0 then -1 else opI (endS t .tm i.toNat)
theorem sn(t:List Nd)(p:Nat):ql t (p:Int)=opI (endS t .tm p):=by
 unfold ql;rw[KY Uo]
 rfl
theorem nX{n:Nd}(h:aG n=true):0<=bv n/\bv n<=18:=by
 unfold bv;split
 ·omega
 split
 ·omega
 split
 ·rename_i a
  have:aX n.b 0 16=true:=by simp[aG,a]at h;exact h.2
  have:=dE.1 this;omega
 split
 ·rename_i b
  have:aX n.b 1 4=true:=by simp[aG,b]at h;exact h.1
  have:=dE.1 this;omega
 omega
def fF(t:List Nd):Int:=if t.length>4096 then 9 else if (nW t).isSome then 0 else 8
end
end Go.Q
namespace Go.Wx
end Go.Wx
namespace Go.Q
open Cd Tm
abbrev pt(b:Nat):Value:=.pointer (some ⟨b,0,none⟩)
abbrev sp(e:Int):List PanicEntry:=[{v:=.iface 267 (.agg #[iV e]),recovered:=false}]
structure Wk where
 bt:Nat
 ba:Nat
 bo:Nat
 bu:Nat
 bs:Nat
 Tt:Nat
 Ta:Nat
 To:Nat
 Tu:Nat
 Ts:Nat
 ta:Option Addr
 cap:Nat
 t:List Nd
 f:Nat
 caps:Array Value
 UB:List Nat
 lo:Nat
def Wk.clo(k:Wk):Value:=.func (.func 211) #[] #[pt k.bt,pt k.ba,pt k.bo,pt k.bu,pt k.bs]
def Wk.bl(k:Wk):List Nat:=[k.bt,k.ba,k.bo,k.bu,k.bs]++k.UB
structure Wk.Ok(k:Wk)(C:Mem):Prop where
 old:∀b o v,C b o v ->b<k.lo
 row:Sl rNd C k.ta k.t
 cap:k.t.length<=k.cap
 low:∀b∈k.bl,k.lo<=b
 nd:k.bl.Nodup
structure Wk.St(k:Wk)(C:Mem)(w:World)(p:Nat)(v:Value)(l:List Nd):Prop where
 sub:Sub C w
 bt:Bk w.heap k.bt [.slice k.ta k.t.length k.cap] k.Tt
 ba:Bk w.heap k.ba [iV (p:Int)] k.Ta
 bo:Bk w.heap k.bo [.func (.func k.f) #[] k.caps] k.To
 bu:Bk w.heap k.bu [v] k.Tu
 bs:Bk w.heap k.bs [k.clo] k.Ts
 own:Own rNd 46 k.lo w v l
 far:∀g,v.ownBlock=some g ->g ∉ k.bl
 ub:∀b∈k.UB,b<w.heap.size
def yX(v v':Value)(w:World):Prop:=∀g,v'.ownBlock=some g ->v.ownBlock=some g \/w.heap.size<=g
def Wk.X(k:Wk)(v:Value):List Nat:=k.ba::k.bu::(v.ownBlock.toList++k.UB)
end Go.Q
namespace Go.Wx
def J6(j:IntKind)(B:Nat):Rd Nat where
 sz:=1
 den _ cs x:=cs=[.int j (x:Int)]/\x<B
 len:=by rintro _ cs x ⟨rfl,_⟩;rfl
 mono:=by rintro _ _ cs x _ h;exact h
 one:=by rintro _ cs x ⟨rfl,_⟩ u hu;simp at hu;subst hu;rfl
def J7(j:IntKind)(h:Array Obj)(b:Nat)(l:List Nat)(T:TypeId):Prop:=Bk h b (l.map λx:Nat=>Value.int j (x:Int)) T
end Go.Wx
namespace Go.Q
open Cd Tm
section
variable{σ:Type}
def yY(k:Wk)(U:World ->σ ->Prop)(er:Int)(w:World)(v:Value):Option (σ×List Nd) ->Ending ->World ->Prop
 |some s,e,w'=>∃v',e= .returned v'/\Own rNd 46 k.lo w' v' s.2/\U w' s.1/\Kp (v.ownBlock.toList++k.UB) w w'/\yX v v' w
 |none,e,w'=>e= .panicked (sp er)/\Kp (v.ownBlock.toList++k.UB) w w'
def Wk.One(k:Wk)(C:Mem)(U:World ->σ ->Prop)(one:σ×List Nd ->Nd ->Int ->Option (σ×List Nd))(M:Nat)(er:Int):Prop:=
 ∀(w:World) (v:Value) (u:σ) (l:List Nd) (n:Nd) (d:Nat),I64 n.op ->I64 n.a ->I64 n.b ->aG n=true ->d<=100000 ->l.length<=M ->Sub C w ->Own rNd 46 k.lo w v l ->(∀g,v.ownBlock=some g ->g ∉ k.bl) ->U w u ->
  dM prog k.f/\Calls prog k.f (#[]++[v,iw n,iV (d:Int)].toArray++k.caps) w (yY k U er w v (one (u,l) n d))
def DW(k:Wk)(C:Mem)(U:World ->σ ->Prop)(er:Int)(w:World)(v:Value)(q:Nat):Option (σ×List Nd) ->Ending ->World ->Prop
 |some s,e,w'=>∃v',e= .returned (.tuple #[])/\k.St C w' q v' s.2/\U w' s.1/\Kp (k.X v) w w'/\yX v v' w
 |none,e,w'=>e= .panicked (sp er)/\Kp (k.X v) w w'
theorem DX{t r:List Nd}{p:Nat}{n:Nd}(h:t.drop p=n::r):t[p]?=some n/\p<t.length/\t.drop (p+1)=r:=by
 have a:p<t.length:=by
  rcases Nat.lt_or_ge p t.length with b|b
  ·exact b
  ·rw[JY b]at h;cases h
 obtain⟨x,d,e⟩:=ay a;rw[e]at h;injection h with b f
 subst b;exact⟨d,a,f⟩
end
end Go.Q
namespace Go.Wx
def lv(P:Program)(rs:List ResultVar)(R:Ending ->World ->Prop)(u:FrameMode)(s:St)(w:World):Prop:=
 ∃fv cap dargs f args,s.d=[{target:=.fn fv cap,args:=dargs}]/\u≠ .run/\(invoke (.fn fv cap) dargs).run P w= .ok (.enter f args) w/\
  CallsD P f args u w λe u' w'=>(∃v,e= .returned v)/\settle u'= .returning/\kz P s rs w' λvs=>R (.returned (one vs)) w'
def yZ(P:Program)(rs:List ResultVar)(R:Ending ->World ->Prop):Exit ->St ->World ->Prop
 | .normal,s,w=>lv P rs R .returning s w
 | .ret,s,w=>lv P rs R .returning s w
 | .panic ch,s,w=>lv P rs R (.panicking ch) s w
 |_,_,_=>False
theorem y5{P:Program}{fn:Func}{R:Ending ->World ->Prop}{u:FrameMode}{s:St}{w:World}{a:Act}{n:Nat}(g:Fr n a s)(h:lv P fn.results.toList R u s w):Leaves P fn a.tmps R a.defers u w:=by
 obtain⟨t,j,d,f,i,k,l,m,o⟩:=h;rw[g.defers,k];refine leaves_cons l m (o.mono ?_);rintro e x y ⟨⟨v,rfl⟩,b,p⟩;obtain⟨z,q,r⟩:=rr g p;simp only[b];exact⟨_,q,r⟩
theorem tH':∀{l:List (Nat×Value)} {t:Nat} {v:Value},get l t=some v ->(t,v)∈l
 |[],t,v,h=>by simp[Cc]at h
 |(i,u)::r,t,v,h=>by
  simp only[eV]at h;cases hb:Nat.beq i t with
  |true=>
   rw[hb]at h;have e:=QJ hb;subst e;have:u=v:=by simpa using h
   subst this;exact List.mem_cons_self
  |false=>
   rw[hb]at h;exact List.mem_cons_of_mem _ (tH' h)
theorem lH{n:Nat}{a:Act}{l:List (Nat×Value)}(h1:a.tmps.size=n)(h2:a.defers=[])(h:∀q∈l,a.tmps[q.1]?=some q.2):Fr n a ⟨l,[]⟩:=
 ⟨h1,h2,λt v b=>h _ (tH' b)⟩
theorem qm{P:Program}{fn:Func}{b:Frame}{cs:List Frame}{R:Ending ->FrameMode ->World ->Prop}{u:FrameMode}{n:Nat}{a:Act}{s:St}{w:World}(d:Fr n a s)(e:s.d=[])(hr:fn.results= #[])(f:b.mode=u)(h:R (.returned (.tuple #[])) u w):
  bodyPostS P fn b cs R .normal a (b::cs) w:=by
 refine⟨d.defers.trans e,u,?_,.tuple #[],?_,h⟩
 ·subst f;rfl
 ·simp[results,hr]
theorem uH{P:Program}{fn:Func}{b:Frame}{cs:List Frame}{R:Ending ->FrameMode ->World ->Prop}{u:FrameMode}{n:Nat}{a:Act}{s:St}{w:World}(d:Fr n a s)(e:s.d=[])(hr:fn.results= #[])(h:R (.returned (.tuple #[])) u w):
  bodyPostS P fn b cs R .normal a ({b with mode:=u}::cs) w:=by
 refine⟨d.defers.trans e,u,rfl,.tuple #[],?_,h⟩;simp[results,hr]
end Go.Wx
namespace Go.Q
open Cd Tm
section
variable{σ:Type}
def DY(lo:Nat)(UB:List Nat)(U:World ->σ ->Prop)(er:Int)(w:World)(v:Value):Option (σ×List Nd) ->Ending ->World ->Prop
 |some s,e,w'=>∃v',e= .returned (.tuple #[v',iV 0])/\Own rNd 46 lo w' v' s.2/\U w' s.1/\Kp (v.ownBlock.toList++UB) w w'/\yX v v' w
 |none,e,w'=>e= .returned (.tuple #[.slice none 0 0,iV er])/\Kp (v.ownBlock.toList++UB) w w'
end
def J8(x:Tr)(w w':World)(v:Value):Prop:=∃a c,v= .slice a (row x).length c/\Sl rNd (New w.heap.size w') a (row x)/\(row x).length<=c
def DZ(bf bb:Nat)(fr by_:Int)(w:World)(_:Unit):Prop:=Bk w.heap bf [iV fr] 3/\Bk w.heap bb [iV by_] 3
theorem y6{U:Type}{h:Int ->Nd ->Option Tr}{G:Nat}(g:1<=G)(b:∀d n y,h d n=some y ->(row y).length<=G):∀(u:U) l n d a l',iO h (u,l) n d=some (a,l') ->l'.length<=l.length+G:=by
 intro u l n d a l' e;simp only[iO]at e;split at e
 ·split at e
  ·cases e
  ·rename_i y f
   have:=b d n y f;simp only[QZ,Prod.mk.injEq]at e;rw[<- e.2,JK];omega
 ·simp only[QZ,Prod.mk.injEq]at e
  rw[<- e.2];simp;omega
theorem D0{by_ fr d:Int}{n:Nd}{y:Tr}(e:gr by_ fr d n=some y):(row y).length=1:=by
 simp only[gr]at e;split at e
 ·split at e
  ·cases e
  ·obtain rfl:=JB e
   rfl
 ·obtain rfl:=JB e
  rfl
end Go.Q
namespace Tm
open Cd
mutual
def varsT:Tr ->Int ->Int ->List (Int×Int)
 | .mk n ks,d,nb=>if n.op=1 then [(n.a,d)]else varsK ks n nb 0 d
def varsK:List Tr ->Nd ->Int ->Int ->Int ->List (Int×Int)
 |[],_,_,_,_=>[]
 |x::r,n,nb,k,d=>varsT x (d+arC n nb k) n.b++varsK r n nb (k+1) d
end
section
variable{S:Type}(met:S ->Int ->Int ->S×Bool)
def nY(p:Bool×S)(a d:Int):Bool×S:=if p.1=true then p else ((met p.2 a d).2,(met p.2 a d).1)
def gD(p:Bool×S):List (Int×Int) ->Bool×S
 |[]=>p
 |q::r=>gD (nY met p q.1 q.2) r
theorem J9(p:Bool×S)(l m:List (Int×Int)):gD met p (l++m)=gD met (gD met p l) m:=by
 induction l generalizing p with
 |nil=>rfl
 |cons q l a=>exact a _
def nZ(s:(Bool×S)×List Nd)(n:Nd)(d:Int):Option ((Bool×S)×List Nd):=some (if n.op=1 then nY met s.1 n.a d else s.1,s.2)
mutual
theorem wT_e:∀(x:Tr) (s:Md) (d nb:Int) (p:Bool×S) (l:List Nd),okT cnt nx x s ->∃l',wT (nZ met) cM x d nb (p,l)=some (gD met p (varsT x d nb),l')
 | .mk n ks,s,d,nb,p,l,f=>by
  obtain⟨hc,b⟩:=f
  by_cases a:n.op=1
  ·have:ks=[]:=List.length_eq_zero_iff.1 (qj hc a)
   subst this;exact⟨l,by simp[wT,nZ,a,wK,varsT,gD]⟩
  ·by_cases e:n.op=3 \/n.op=13
   ·obtain⟨l',h⟩:=Ia' ks n s nb 0 d 0 p (l++[n]) b
    exact⟨l',by simp only[wT,KX e,cM,varsT,KY a];exact h⟩
   ·obtain⟨l',h⟩:=Ia' ks n s nb 0 d 0 p l b
    exact⟨l',by simp only[wT,KY e,nZ,varsT,KY a];exact h⟩
theorem Ia':∀(ks:List Tr) (n:Nd) (s:Md) (nb k d:Int) (j:Nat) (p:Bool×S) (l:List Nd),bC cnt nx ks n s j ->∃l',wK (nZ met) cM ks n nb k d (p,l)=some (gD met p (varsK ks n nb k d),l')
 |[],n,s,nb,k,d,j,p,l,_=>⟨l,by simp[wK,varsK,gD]⟩
 |x::r,n,s,nb,k,d,j,p,l,a=>by
  obtain⟨b,hr⟩:=a;obtain⟨e,f⟩:=wT_e x (nx s n j) (d+arC n nb k) n.b p l b;obtain⟨g,i⟩:=Ia' r n s nb (k+1) d (j+1) (gD met p (varsT x (d+arC n nb k) n.b)) e hr;exact⟨g,by simp only[wK,f,varsK,J9];exact i⟩
end
end
theorem uI(f:Int ->Int ->Bool):∀(l:List (Int×Int)) (b:Bool),(gD (λ_ a d=>((),f a d)) (b,()) l).1=(b||l.any λq=>f q.1 q.2)
 |[],b=>by simp[gD]
 |q::r,b=>by
  cases b with
  |true=>
   simp only[gD,nY,if_true,Bool.true_or];rw[uI f r true];simp
  |false=>
   simp only[gD,nY,List.any_cons];rw[KY UO,uI f r];simp
def kK(x:Tr)(n:Int):Bool:=(varsT x 0 0).all λq=>decide (q.1-q.2<max n 0)
def pb(x:Tr)(v:Int):Int×Int:=(varsT x 0 0).foldl (λs q=>if q.1-q.2=v then (s.1+1,max s.2 q.2)else s) (0,0)
theorem D1(v:Int):∀(l:List (Int×Int)) (s:Int×Int),gD (λ(s:Int×Int) a d=>(if a-d=v then (s.1+1,max s.2 d)else s,false)) (false,s) l=(false,l.foldl (λs q=>if q.1-q.2=v then (s.1+1,max s.2 q.2)else s) s)
 |[],s=>rfl
 |q::r,s=>by
  simp only[gD,nY,List.foldl_cons];rw[KY UO];exact D1 v r _
mutual
theorem gV':∀(x:Tr) (d nb:Int),(varsT x d nb).length<=(row x).length
 | .mk n ks,d,nb=>by
  simp only[varsT,row,JV];split
  ·simp
  ·have:=nw' ks n nb 0 d
   omega
theorem nw':∀(ks:List Tr) (n:Nd) (nb k d:Int),(varsK ks n nb k d).length<=(rows ks).length
 |[],n,nb,k,d=>by simp[varsK,rows]
 |x::r,n,nb,k,d=>by
  have h1:=gV' x (d+arC n nb k) n.b;have a:=nw' r n nb (k+1) d;simp only[varsK,rows,JK];omega
end
theorem y8(v:Int):∀(l:List (Int×Int)) (s:Int×Int) (D:Int),0<=s.1 ->0<=s.2 ->s.2<=D ->(∀q∈l,0<=q.2/\q.2<=D) ->0<=(l.foldl (λs q=>if q.1-q.2=v then (s.1+1,max s.2 q.2)else s) s).1/\(l.foldl (λs q=>if q.1-q.2=v then (s.1+1,max s.2 q.2)else s) s).1<=s.1+l.length/\0<=(l.foldl (λs q=>if q.1-q.2=v then (s.1+1,max s.2 q.2)else s) s).2/\(l.foldl (λs q=>if q.1-q.2=v then (s.1+1,max s.2 q.2)else s) s).2<=D
 |[],s,D,h1,h2,h3,_=>⟨h1,Ud,h2,h3⟩
 |q::r,s,D,h1,h2,h3,h=>by
  simp only[List.foldl_cons,JV];have a:=h q Ud
  by_cases e:q.1-q.2=v
  ·rw[KX e]
   have:=y8 v r (s.1+1,max s.2 q.2) D Us Us Us (λq a=>h q (by simp[a]));simp only at this;refine⟨this.1,Uo,this.2.2.1,this.2.2.2⟩
  ·rw[KY e]
   have:=y8 v r s D h1 h2 h3 (λq a=>h q (by simp[a]));refine⟨this.1,Uo,this.2.2.1,this.2.2.2⟩
mutual
theorem fr':∀(x:Tr) (s:Md) (d nb:Int),okT cnt nx x s ->0<=d ->0<=nb ->nb<=4 ->∀q∈varsT x d nb,d<=q.2/\q.2<=d+4*(row x).length/\0<=q.1/\q.1<=1048576
 | .mk n ks,s,d,nb,f,g,i,h4,q,a=>by
  obtain⟨hc,j⟩:=f;simp only[varsT]at a;split at a
  ·rename_i l
   simp only[JJ,JZ,or_false]at a;subst a;have b:aG n=true:=by
    cases s with
    |tm=>exact(fq hc).1
    |fn=>exact(o8 hc).1
    |am=>
     simp only[cnt]at hc;split at hc
     ·rename_i q
      exact q.2
     ·cases hc
   have:=dn b;simp only[row,JV];omega
  ·have k:0<=n.b/\(n.op=12 ->n.b<=4):=by
    have b:aG n=true:=by
     cases s with
     |tm=>exact(fq hc).1
     |fn=>exact(o8 hc).1
     |am=>
      simp only[cnt]at hc;split at hc
      ·rename_i q
       exact q.2
      ·cases hc
    refine⟨(dn b).1,λe=>?_⟩;have:aX n.b 1 4=true:=by simp[aG,e]at b;exact b.1
    exact(dE.1 this).2
   have:=tJ' ks n s nb 0 d 0 j g i h4 k q a;simp only[row,JV];omega
theorem tJ':∀(ks:List Tr) (n:Nd) (s:Md) (nb k d:Int) (j:Nat),bC cnt nx ks n s j ->0<=d ->0<=nb ->nb<=4 ->(0<=n.b/\(n.op=12 ->n.b<=4)) ->∀q∈varsK ks n nb k d,d<=q.2/\q.2<=d+4+4*(rows ks).length/\0<=q.1/\q.1<=1048576
 |[],n,s,nb,k,d,j,_,_,_,_,_,q,a=>by simp[varsK]at a
 |x::r,n,s,nb,k,d,j,t,u,v,h4,hb,q,a=>by
  obtain⟨p,hr⟩:=t;simp only[varsK,JW]at a;have z:0<=arC n nb k/\arC n nb k<=4:=by
   unfold arC;have:=yV n k;split
   ·split<;>omega
   ·omega
  simp only[rows,JK];rcases a with a|a
  ·by_cases i:n.op=12
   ·have:=fr' x (nx s n j) (d+arC n nb k) n.b p Uo hb.1 (hb.2 i) q a
    omega
   ·have e:varsT x (d+arC n nb k) n.b=varsT x (d+arC n nb k) 0:=by
     obtain⟨m,l⟩:=x;have o:m.op≠13:=λb=>by
      have f:=p.1;cases s with
      |tm=>
       have:nx Md.tm n j= .am \/nx Md.tm n j= .tm:=by
        simp only[nx,KY i];split<;>simp
       rcases this with e|e
       ·rw[e]at f
        simp[cnt,b]at f
       ·rw[e]at f
        exact(fq f).2.2.1 b
      |fn=>exact(fq (show cnt .tm m=_ from f)).2.2.1 b
      |am=>
       have f:cnt .am m=_:=f;simp[cnt,b]at f
     simp only[varsT];have:∀(l:List Tr) (k d nb g:Int),varsK l m nb k d=varsK l m g k d:=by
      intro l
      induction l with
      |nil=>intros;rfl
      |cons y l w=>
       intro k d nb g;simp only[varsK,mU o,w (k+1) d nb g]
     rw[this l 0 (d+arC n nb k) n.b 0]
    rw[e]at a;have:=fr' x (nx s n j) (d+arC n nb k) 0 p Uo Uo Uo q a;omega
  ·have:=tJ' r n s nb (k+1) d (j+1) hr u v h4 hb q a
   omega
end
end Tm
namespace Go.Q
open Cd Tm
section
variable{S:Type}
def D2(f:Nat)(caps:Array Value)(MB:List Nat)(US:World ->S ->Prop)(met:S ->Int ->Int ->S×Bool):Prop:=
 ∀(w:World) (s:S) (a d:Nat),a<=1048576 ->d<=100000 ->US w s ->dM prog f/\Calls prog f (#[]++[iV (a:Int),iV (d:Int)].toArray++caps) w (λe w'=>e= .returned (.bool (met s a d).2)/\US w' (met s a d).1/\Kp MB w w')
def D3(bf bm f:Nat)(caps:Array Value)(US:World ->S ->Prop)(w:World)(p:Bool×S):Prop:=Bk w.heap bf [.bool p.1] 4/\Bk w.heap bm [.func (.func f) #[] caps] 187/\US w p.2
end
end Go.Q
namespace Tm
open Cd
section
variable{h:Int ->Nd ->Option Tr}
mutual
theorem pf':∀(x:Tr) (s:Md) (d nb:Int),okT cnt nx x s ->(∀q∈varsT x d nb,∀n:Nd,n.op=1 ->n.a=q.1 ->(h q.2 n).isSome=true) ->(gT h x d nb).isSome=true
 | .mk n ks,s,d,nb,f,b=>by
  obtain⟨hc,g⟩:=f
  by_cases a:n.op=1
  ·simp only[gT,a,if_true]
   exact b (n.a,d) (by simp[varsT,a]) n a rfl
  ·simp only[gT,KY a]
   have:=tK' ks n s nb 0 d 0 g (λq i=>b q (by simpa[varsT,a]using i));cases e:gK h ks n nb 0 d with
   |none=>rw[e]at this;cases this
   |some j=>rfl
theorem tK':∀(ks:List Tr) (n:Nd) (s:Md) (nb k d:Int) (j:Nat),bC cnt nx ks n s j ->(∀q∈varsK ks n nb k d,∀n:Nd,n.op=1 ->n.a=q.1 ->(h q.2 n).isSome=true) ->(gK h ks n nb k d).isSome=true
 |[],n,s,nb,k,d,j,_,_=>rfl
 |x::r,n,s,nb,k,d,j,g,b=>by
  obtain⟨i,hr⟩:=g;have e:=pf' x (nx s n j) (d+arC n nb k) n.b i (λq a=>b q (by simp[varsK,a]));have f:=tK' r n s nb (k+1) d (j+1) hr (λq a=>b q (by simp[varsK,a]));simp only[gK];cases l:gT h x (d+arC n nb k) n.b with
  |none=>rw[l]at e;cases e
  |some y=>
   cases m:gK h r n nb (k+1) d with
   |none=>rw[m]at f;cases f
   |some o=>rfl
end
end
def eu(x:Tr):Prop:=∀q∈varsT x 0 0,q.1<=500000
def aK(x:Tr)(by_ fr:Int):Tr:=(lG x by_ fr).getD x
theorem n8{x:Tr}(a:Ok .tm x)(b:eu x){by_ fr:Int}(hb:by_<=500000):lG x by_ fr=some (aK x by_ fr):=by
 have h:(lG x by_ fr).isSome=true:=pf' x .tm 0 0 a.1 (λq d n _ f=>by
  have:=b q d;unfold gr;split
  ·rw[KY Uo];rfl
  ·rfl)
 unfold aK;cases e:lG x by_ fr with
 |none=>rw[e]at h;cases h
 |some y=>rfl
theorem y9{x:Tr}(a:Ok .tm x)(b:eu x){by_ fr:Int}(d:0<=by_)(hb:by_<=500000):Ok .tm (aK x by_ fr):=J5 d a (n8 a b hb)
def kM(u:Tr)(b:Int):Tr:=if 0<=b/\b<=500000 then aK u b 0 else u
def fG(u:Tr)(v:Int)(d:Int)(n:Nd):Option Tr:=if n.a=v+d then some (kM u (v+d))else if v+d<n.a/\0<n.a then some (.mk {n with a:=n.a-1} [])else some (.mk n [])
def fH(x u:Tr)(v:Int):Tr:=(gT (fG u v) x 0 0).getD x
theorem qn{x u:Tr}(a:Ok .tm x)(v:Int):gT (fG u v) x 0 0=some (fH x u v):=by
 have h:(gT (fG u v) x 0 0).isSome=true:=pf' x .tm 0 0 a.1 (λq b n _ d=>by
  unfold fG;split
  ·rfl
  ·split<;>rfl)
 unfold fH;cases e:gT (fG u v) x 0 0 with
 |none=>rw[e]at h;cases h
 |some y=>rfl
theorem D4{u:Tr}(a:Ok .tm u)(d:eu u)(b:Int):Ok .tm (kM u b):=by
 unfold kM;split
 ·rename_i h
  exact y9 a d h.1 h.2
 ·exact a
theorem za{x u:Tr}(f:Ok .tm x)(i:Ok .tm u)(j:eu u){v:Int}:Ok .tm (fH x u v):=
 (yW (h:=fG u v) (λd n y k a e=>by
  have b:aX n.a 0 1048576=true/\n.b=0:=by simpa[aG,a]using k
  have g:=dE.1 b.1;simp only[fG]at e;split at e
  ·obtain rfl:=JB e
   exact D4 i j _
  ·split at e
   ·obtain rfl:=JB e
    exact o9 (by simpa using a) Us Us b.2
   ·obtain rfl:=JB e
    exact o9 a g.1 g.2 b.2) x .tm 0 0 _ f (qn f v)).1
end Tm
namespace Go.Q
open Cd Tm
theorem kN{x:Tr}(a:Ok .tm x)(hl:(row x).length<=4096):fF (row x)=0:=by
 unfold fF;rw[KY Uo,DO a]
 rfl
theorem Ka{h:Int ->Nd ->Option Tr}{G:Nat}(a:1<=G)(b:∀d n y,h d n=some y ->(row y).length<=G){x y:Tr}{d nb:Int}(f:Ok .tm x)(e:gT h x d nb=some y):(row y).length<=G*(row x).length:=by
 have:=Hd' (h:=h) x .tm d nb () [] f.1;rw[e]at this;have:=DS a (y6 a b) x d nb () [] () _ this
 simpa using this
theorem zb{x:Tr}(a:Ok .tm x)(b:eu x){by_ fr:Int}(hb:by_<=500000):(row (aK x by_ fr)).length<=(row x).length:=by
 have:=Ka (KJ 1) (λd n y e=>by rw[D0 e];exact KJ _) a (n8 a b hb (fr:=fr));omega
section
variable{C:Mem}
def D5(ba bt bd:Nat)(v:Int)(w:World)(s:Int×Int):Prop:=Bk w.heap ba [iV v] 3/\Bk w.heap bt [iV s.1] 3/\Bk w.heap bd [iV s.2] 3/\I64 s.1
def Kb(v:Int)(s:Int×Int)(a d:Int):(Int×Int)×Bool:=(if a-d=v then (IntKind.wrap .i64 (s.1+1),max s.2 d)else s,false)
end
def D6(ba bu:Nat)(v:Int)(ua:Option Addr)(n cap:Nat)(w:World)(_:Unit):Prop:=Bk w.heap ba [iV v] 3/\Bk w.heap bu [.slice ua n cap] 29
theorem D7{u:Tr}(d:Ok .tm u)(a:eu u)(b:Int):(row (kM u b)).length<=(row u).length:=by
 unfold kM;split
 ·rename_i h
  exact zb d a h.2
 ·exact KJ _
theorem Kc{u:Tr}(b:Ok .tm u)(a:eu u){v d:Int}{n:Nd}{y:Tr}(e:fG u v d n=some y):(row y).length<=(row u).length:=by
 have f:=aZ u;simp only[fG]at e;split at e
 ·obtain rfl:=JB e
  exact D7 b a _
 ·split at e
  ·obtain rfl:=JB e
   simp[row,rows];omega
  ·obtain rfl:=JB e
   simp[row,rows];omega
def gY(x u:Tr)(v:Int):Bool:=decide (4096<((row x).length:Int)+(pb x v).1*(((row u).length:Int)-1))
end Go.Q
