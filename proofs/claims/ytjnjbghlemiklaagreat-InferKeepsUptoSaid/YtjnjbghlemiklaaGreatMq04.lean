import Derived.Test.YtjnjbghlemiklaaGreatMq03
import Derived.Test.YtjnjbghlemiklaaGreatProg
import Derived.KernelRfl
import Derived.Recover
set_option linter.unusedVariables false
set_option linter.unusedSimpArgs false
set_option linter.unusedSectionVars false
set_option maxHeartbeats 4000000
open Go.Proofs.Tryz
namespace Go.Wx
abbrev vI(n:Int):AV:=.c (.p (.int .i64 n))
abbrev vP(x:PV):AV:=.c (.p x)
abbrev pI(n:Int):PV:=.int .i64 n
theorem vi{r:Int}{k:Int ->Prop}(a:k r)(h1:-9223372036854775808<=r:=by first|omega|(simp only;omega))(h2:r<=9223372036854775807:=by first|omega|(simp only;omega)):mb .i64 r k:=fH h1 h2 a
theorem eA9{τ:Tau}{A:AS}{rs:List ResultVar}{r:PV}{a:List AV}{b:List PV}(h1:resV τ A rs=some a:=by exact rfl)(h2:toPL A a=some b:=by exact rfl)(h3:gz' b=r:=by exact rfl):∃a b,resV τ A rs=some a/\toPL A a=some b/\gz' b=r:=⟨a,b,h1,h2,h3⟩
theorem eP9{τ:Tau}{A:AS}{rs:List ResultVar}{r:PV}{T:Nat}{cs:List PV}{a:List AV}{b:List PV}{ds:List AC}(h1:resV τ A rs=some a:=by exact rfl)(h2:toPL A a=some b:=by exact rfl)(h3:gz' b=r:=by exact rfl)(h4:look A.m 0=some (.st 1 T ds):=by exact rfl)(d:pvl ds=some cs:=by exact rfl):∃a b ds,resV τ A rs=some a/\toPL A a=some b/\gz' b=r/\look A.m 0=some (.st 1 T ds)/\pvl ds=some cs:=⟨a,b,ds,h1,h2,h3,h4,d⟩
theorem kA9{all:List Oper}{es:List En}{τ:Tau}{A:AS}{rs:List ResultVar}{r:PV}{a:List AV}{b:List PV}(h1:resV τ A rs=some a:=by exact rfl)(h2:toPL A a=some b:=by exact rfl)(h3:gz' b=r:=by exact rfl)(h:chkL all es.reverse [] []=true:=by kernel_rfl):ln all es (∃a b,resV τ A rs=some a/\toPL A a=some b/\gz' b=r):=gQ h ⟨a,b,h1,h2,h3⟩
theorem kP9{all:List Oper}{es:List En}{τ:Tau}{A:AS}{rs:List ResultVar}{r:PV}{T:Nat}{cs:List PV}{a:List AV}{b:List PV}{ds:List AC}(h1:resV τ A rs=some a:=by exact rfl)(h2:toPL A a=some b:=by exact rfl)(h3:gz' b=r:=by exact rfl)(h4:look A.m 0=some (.st 1 T ds):=by exact rfl)(d:pvl ds=some cs:=by exact rfl)(h:chkL all es.reverse [] []=true:=by kernel_rfl):ln all es (∃a b ds,resV τ A rs=some a/\toPL A a=some b/\gz' b=r/\look A.m 0=some (.st 1 T ds)/\pvl ds=some cs):=gQ h ⟨a,b,ds,h1,h2,h3,h4,d⟩
theorem vy{p:Prop} [Decidable p]{k:Bool ->Prop}(a:k true)(h:p:=by omega):i9 p k:=uC h a
theorem vn{p:Prop} [Decidable p]{k:Bool ->Prop}(a:k false)(h:¬ p:=by omega):i9 p k:=ot h a
theorem vk{all:List Oper}{es:List En}{k:Prop}(a:k)(h:chkL all es.reverse [] []=true:=by kernel_rfl):ln all es k:=gQ h a
theorem fY{all:List Oper}{es:List En}{k:List Oper ->Prop}(a:k (mskL ((all.drop es.length).map λ_=>true) (all.drop es.length)))(h:(nopL (es.length-1) all []).drop es.length=mskL ((all.drop es.length).map λ_=>true) (all.drop es.length):=by kernel_rfl):vT all es k:=qd _ a h
theorem qn{P:Program}{T:Nat}{j:IntKind}{e:Int}{k:Prop}(h:∀w,(Instr.makeInterface T (.agg #[.int j e])).run P w= .ok (.iface T (.agg #[.int j e])) w)(a:k):pY P T j e k:=⟨h,a⟩
theorem ak{α β:Type}(f:α ->β)(l:List α):(l.map f).length=l.length:=List.length_map _
theorem vm{α:Type}{p:α ->List PV}{l:List α}{sz:Nat}{i:Int}{k:Nat ->List PV ->Prop}(j:Nat){x:α}(a:l[j]?=some x)(b:k j (p x))(hi:i=(j:Int):=by first|rfl|omega)(hsz:(p x).length=sz:=by rfl):nl (l.map p) sz i k:=
 nm j (p x) hi (by rw[JX,a];rfl) hsz b
theorem va{α:Type}{p:α ->List PV}{l:List α}{sz bs m:Nat}{k:Prop}(a:k)(b:∀x∈l,(p x).length=sz/\∀q∈p x,q.one=true)(hb:m+l.length<=1000000000:=by first|omega|(simp[cQ];omega))(d:bs<=1000:=by decide):pO sz bs m (l.map p) k:=by
 have g:(m+l.length)*bs<=1000000000*1000:=Nat.mul_le_mul hb d;refine⟨?_⟩;rw[List.length_map];refine⟨Oo,KQ hb OO,λy e=>?_,a⟩;obtain⟨x,f,rfl⟩:=List.mem_map.1 e;exact b x f
theorem G0{l:List (List PV)}{m:Int}{k:Nat ->Prop}(i:Nat)(a:k i)(hm:m=(i:Int):=by first|rfl|omega)(b:0<i:=by omega)(h1:i<=100:=by omega)(hl:l.length<=1000000:=by first|omega|(simp;omega)):pP l m k:=⟨i,hm,b,h1,hl,a⟩
theorem aV{y:List PV}{sz bs m:Nat}{k:Prop}(a:k)(hl:y.length=sz:=by rfl)(b:y.all PV.one=true:=by rfl)(hb:m+1<=1000000000:=by first|omega|(simp[cQ];omega))(d:bs<=1000:=by decide):pO sz bs m [y] k:=by
 have g:(m+1)*bs<=1000000000*1000:=Nat.mul_le_mul hb d;refine⟨by simpa using Oo,KQ hb OO,λz e=>?_,a⟩;obtain rfl:z=y:=by simpa using e
 exact⟨hl,λq f=>List.all_eq_true.1 b q f⟩
theorem bC{lo hi:Option Int}{l:List (List PV)}{sz:Nat}{k:Nat ->Nat ->Prop}(p q:Nat)(a:k p q)(hsz:∀x∈l,x.length=sz)(h1:match lo with
 |some x=>x=(p:Int)
 |none=>p=0:=by first|rfl|omega) (h2:match hi with
 |some x=>x=(q:Int)
 |none=>q=l.length:=by first|rfl|omega) (h3:p<=q:=by first|omega|(simp;omega)) (h4:q<=l.length:=by first|omega|(simp;omega)):rZ lo hi l sz k:=⟨p,q,h1,h2,h3,h4,hsz,a⟩
section
variable{P:Program}{τ:Tau}{n:Nat}{A B:AS}{c:Code}{K:Exit ->AS ->Prop}
theorem vf {f : FuncId} {fn : Func} {a : List PV} {r : PV} (n : Nat) (rs : List ResultVar) (b : aL P τ) (i : P.funcs[f]? = some fn) (h : vx P τ n c ⟨pF' a 0, []⟩ (qg τ rs r)) (hb : fn.body = some c := by rfl) (j : fn.ntmps = n := by rfl) (d : fn.results.toList = rs := by rfl) (e : a.length <= n := by exact Nat.le_of_ble_eq_true rfl) (g : (fn.name == "runtime.NumGoroutine") = false := by decide) : VC P f a r := qm n rs b i hb j d e g h
theorem cA {f : FuncId} {fn : Func} {a : List PV} {r : PV} (n : Nat) (rs : List ResultVar) (b : aL P τ) (i : P.funcs[f]? = some fn) (h : VCode P n c ⟨pF' a 0, []⟩ (qg τ rs r)) (hb : fn.body = some c := by rfl) (j : fn.ntmps = n := by rfl) (d : fn.results.toList = rs := by rfl) (e : a.length <= n := by exact Nat.le_of_ble_eq_true rfl) (g : (fn.name == "runtime.NumGoroutine") = false := by decide) : VC P f a r := sr n rs b i hb j d e g h
theorem lu {f : FuncId} {fn : Func} {a : List PV} {e sz : Nat} {l : List (List PV)} (n : Nat) (rs : List ResultVar) (b : aL P τ) (j : P.funcs[f]? = some fn) (h : VCode P n c ⟨pF' a 0, []⟩ (A0 τ rs e sz l)) (hb : fn.body = some c := by rfl) (k : fn.ntmps = n := by rfl) (d : fn.results.toList = rs := by rfl) (g : a.length <= n := by exact Nat.le_of_ble_eq_true rfl) (i : (fn.name == "runtime.NumGoroutine") = false := by decide) : VO P f a e sz l := GU n rs b j hb k d g i h
theorem cI {f : FuncId} {fn : Func} {aes : List AV} {m : List (Nat × SE)} {r : Except (List PanicEntry) (AV × List (Nat × SE))} (n : Nat) (rs : List ResultVar) (a : aL P τ) (g : P.funcs[f]? = some fn) (h : VCode P n c ⟨kd' aes 0, m⟩ (qj τ rs r)) (hb : fn.body = some c := by rfl) (i : fn.ntmps = n := by rfl) (b : fn.results.toList = rs := by rfl) (d : aes.length <= n := by exact Nat.le_of_ble_eq_true rfl) (e : (fn.name == "runtime.NumGoroutine") = false := by decide) : VG P f aes m r := nA n rs a g hb i b d e h
theorem G1 {f : FuncId} {fn : Func} {a : List PV} {T : Nat} {cs : List PV} (n : Nat) (rs : List ResultVar) (b : aL P τ) (i : P.funcs[f]? = some fn) (h : VCode P n c ⟨pF' a 0, []⟩ (A1 τ rs T cs)) (hb : fn.body = some c := by rfl) (j : fn.ntmps = n := by rfl) (d : fn.results.toList = rs := by rfl) (e : a.length <= n := by exact Nat.le_of_ble_eq_true rfl) (g : (fn.name == "runtime.NumGoroutine") = false := by decide) : VN P f a T cs := GV n rs b i hb j d e g h
theorem nB {f : FuncId} {fn : Func} {a : List PV} {r : Except (List PanicEntry) PV} (n : Nat) (rs : List ResultVar) (b : aL P τ) (i : P.funcs[f]? = some fn) (h : VCode P n c ⟨pF' a 0, []⟩ (A3 τ rs r)) (hb : fn.body = some c := by rfl) (j : fn.ntmps = n := by rfl) (d : fn.results.toList = rs := by rfl) (e : a.length <= n := by exact Nat.le_of_ble_eq_true rfl) (g : (fn.name == "runtime.NumGoroutine") = false := by decide) : VX P f a r := GX n rs b i hb j d e g h
theorem aX {f : FuncId} {fn : Func} {T : Nat} {cs a : List PV} {r : Except (List PanicEntry) (List PV × PV)} (n : Nat) (rs : List ResultVar) (b : aL P τ) (i : P.funcs[f]? = some fn) (h : VCode P n c ⟨(0, .c (.ptr 0 0)) :: pF' a 1, [(0, .st 1 T (cs.map .p))]⟩ (ql τ rs T r)) (hb : fn.body = some c := by rfl) (j : fn.ntmps = n := by rfl) (d : fn.results.toList = rs := by rfl) (e : a.length + 1 <= n := by exact Nat.le_of_ble_eq_true rfl) (g : (fn.name == "runtime.NumGoroutine") = false := by decide) : iQ P f T cs a r := GY n rs b i hb j d e g h
def mj(f:Nat ->Nat)(A l:List (Nat×AV)):Prop:=List.rec (motive:=λ_=>Prop) True (λp _ ih=>(look A p.1=some p.2/\p.2.ren f=p.2)/\ih) l
def nC(f:Nat ->Nat)(A l:List (Nat×SE)):Prop:=List.rec (motive:=λ_=>Prop) True (λp _ ih=>(look A p.1=some p.2/\(f p.1=p.1/\p.2.ren f=p.2))/\ih) l
def ow(f:Nat ->Nat)(A l:List (Nat×AV)):Prop:=List.rec (motive:=λ_=>Prop) True (λp _ ih=>look A p.1=some (p.2.ren f)/\ih) l
def qo(f:Nat ->Nat)(A l:List (Nat×SE)):Prop:=List.rec (motive:=λ_=>Prop) True (λp _ ih=>look A (f p.1)=some (p.2.ren f)/\ih) l
structure LeQ(f:Nat ->Nat)(A:AS)(ch ce:List (Nat×AV))(bl cm:List (Nat×SE)):Prop where
 c:mj f A.e ce
 d:nC f A.m cm
 x:ow f A.e ch
 y:qo f A.m bl
 i:injB f (keysOf (bl++cm))=true
theorem G2{f:Nat ->Nat}{A:AS}{l r:List (Nat×AV)}(h1:ow f A.e l)(h2:qf f A r):qf f A (l++r):=by
 induction l with
 |nil=>exact h2
 |cons p l a=>exact⟨h1.1,a h1.2⟩
theorem G3{f:Nat ->Nat}{A:AS}{l:List (Nat×AV)}(h1:mj f A.e l):qf f A l:=by
 induction l with
 |nil=>exact True.intro
 |cons p l a=>exact⟨by rw[h1.1.2];exact h1.1.1,a h1.2⟩
theorem G4{f:Nat ->Nat}{A:AS}{l r:List (Nat×SE)}(h1:qo f A.m l)(h2:lr f A r):lr f A (l++r):=by
 induction l with
 |nil=>exact h2
 |cons p l a=>exact⟨h1.1,a h1.2⟩
theorem G5{f:Nat ->Nat}{A:AS}{l:List (Nat×SE)}(h1:nC f A.m l):lr f A l:=by
 induction l with
 |nil=>exact True.intro
 |cons p l a=>exact⟨by rw[h1.1.2.1,h1.1.2.2];exact h1.1.1,a h1.2⟩
theorem LeQ.le{f:Nat ->Nat}{ch ce:List (Nat×AV)}{bl a:List (Nat×SE)}(h:LeQ f A ch ce bl a):Le f A ⟨ch++ce,bl++a⟩:=gR (G2 h.x (G3 h.c)) (G4 h.y (G5 h.d)) h.i
theorem lq{f:Nat ->Nat}{ch ce:List (Nat×AV)}{bl a:List (Nat×SE)}(c:mj f A.e ce:=by repeat first|exact True.intro|refine And.intro ⟨rfl,rfl⟩ ?_)(d:nC f A.m a:=by repeat first|exact True.intro|refine And.intro ⟨rfl,rfl,rfl⟩ ?_)(x:ow f A.e ch:=by repeat first|exact True.intro|refine And.intro rfl ?_)(y:qo f A.m bl:=by repeat first|exact True.intro|refine And.intro rfl ?_)(i:injB f (keysOf (bl++a))=true:=by rfl):LeQ f A ch ce bl a:=⟨c,d,x,y,i⟩
structure nD(σ:Type)(ch:σ ->List (Nat×AV))(bl:σ ->List (Nat×SE))(ce:List (Nat×AV))(cm:List (Nat×SE))(M:σ ->Prop)(m:σ ->Prop)(A:AS):Prop where
 go:∃y f,m y/\M y/\LeQ f A (ch y) ce (bl y) cm
theorem au{σ:Type}{ch:σ ->List (Nat×AV)}{bl:σ ->List (Nat×SE)}{ce:List (Nat×AV)}{a:List (Nat×SE)}{M m:σ ->Prop}(y:σ)(h:M y)(f:Nat ->Nat:=id)(hm:m y:=by first|exact True.intro|(show _<_;omega))(c:mj f A.e ce:=by repeat first|exact True.intro|refine And.intro ⟨rfl,rfl⟩ ?_)(d:nC f A.m a:=by repeat first|exact True.intro|refine And.intro ⟨rfl,rfl,rfl⟩ ?_)(x:ow f A.e (ch y):=by repeat first|exact True.intro|refine And.intro rfl ?_)(y':qo f A.m (bl y):=by repeat first|exact True.intro|refine And.intro rfl ?_|refine And.intro (congrArg (λl=>some (SE.rw _ _ l)) (by first|(simp;done)|(simp[cQ];rfl))) ?_)(i:injB f (keysOf (bl y++a))=true:=by rfl):nD σ ch bl ce a M m A:=⟨y,f,hm,h,c,d,x,y',i⟩
theorem az(b:aL P τ){σ:Type}(ce:List (Nat×AV))(a:List (Nat×SE))(ch:σ ->List (Nat×AV))(bl:σ ->List (Nat×SE))(M:σ ->Prop)(μ:σ ->Nat)(x0:σ)(i:M x0)(bT:∀x,M x ->VCode P n c ⟨ch x++ce,bl x++a⟩ (fI (nD σ ch bl ce a M λy=>μ y<μ x) K))(f:Nat ->Nat:=id)
  (c1:mj f A.e ce:=by repeat first|exact True.intro|refine And.intro ⟨rfl,rfl⟩ ?_) (j:nC f A.m a:=by repeat first|exact True.intro|refine And.intro ⟨rfl,rfl,rfl⟩ ?_) (x1:ow f A.e (ch x0):=by repeat first|exact True.intro|refine And.intro rfl ?_) (y1:qo f A.m (bl x0):=by repeat first|exact True.intro|refine And.intro rfl ?_) (k:injB f (keysOf (bl x0++a))=true:=by rfl):VCode P n (.loop c) A K:=
 vZ b (λx=>⟨ch x++ce,bl x++a⟩) M μ x0 f (LeQ.le ⟨c1,j,x1,y1,k⟩) i λx l=>(bT x l).mono λe A q X r s w d g=>by
  cases e with
  |normal=>
   obtain⟨y,f,m,o,p⟩:=(show nD σ ch bl ce a M (λy=>μ y<μ x) A from d).go;exact⟨A,⟨y,f,m,o,p.le⟩,g⟩
  |_=>exact⟨A,d,g⟩
theorem vl(a:aL P τ){σ:Type}(ce:List (Nat×AV))(ch:σ ->List (Nat×AV))(M:σ ->Prop)(μ:σ ->Nat)(x0:σ)(b:M x0)(bT:∀x,M x ->vx P τ n c ⟨ch x++ce,[]++[]⟩ (fI (nD σ ch (λ_=>[]) ce [] M λy=>μ y<μ x) K))
  (c1:mj id A.e ce:=by repeat first|exact True.intro|refine And.intro ⟨rfl,rfl⟩ ?_) (x1:ow id A.e (ch x0):=by repeat first|exact True.intro|refine And.intro rfl ?_):VCode P n (.loop c) A K:=
 az a ce [] ch (λ_=>[]) M μ x0 b (λx d=>aj a (bT x d)) id c1 True.intro x1 True.intro rfl
theorem VCode.blk{id:Nat}{x:Code}(h:VCode P n x A (qe id K)):VCode P n (.block id x) A K:=by
 refine VCode.mk λp X q s w r=>?_;have o:=h.run p X q s w r;unfold EvCode at o ⊢;intro a t;refine wp_block (Go.wp_mono (o a t) λe y z u=>?_);obtain⟨g,b,i,k,f,d⟩:=u;cases e with
 |normal=>exact⟨g,b,i,k,f,d⟩
 |exit j=>
  simp only[Exit.inBlock];simp only[qe]at f
  by_cases m:j=id
  ·subst m
   rw[if_pos rfl];rw[Nat.beq_refl]at f;exact⟨g,b,i,k,f,d⟩
  ·rw[if_neg m]
   have:Nat.beq j id=false:=by
    cases v:Nat.beq j id with
    |true=>exact absurd (Nat.eq_of_beq_eq_true v) m
    |false=>rfl
   rw[this]at f;exact⟨g,b,i,k,f,d⟩
 |goto l=>exact⟨g,b,i,k,f,d⟩
 |ret=>exact⟨g,b,i,k,f,d⟩
 |panic D=>exact⟨g,b,i,k,f,d⟩
 |outgrown=>exact⟨g,b,i,k,f,d⟩
theorem aC(d:aL P τ){a b:Code}(h:vx P τ n a A (fI (λe=>VCode P n b e K) K)):VCode P n (.seq a b) A K:=VCode.seq (aj d h)
theorem dB(j:aL P τ){a b:Code}{σ:Type}(ce:List (Nat×AV))(i:List (Nat×SE))(ch:σ ->List (Nat×AV))(bl:σ ->List (Nat×SE))(M:σ ->Prop)(h1:vx P τ n a A (fI (nD σ ch bl ce i M λ_=>True) K))(h2:∀x,M x ->VCode P n b ⟨ch x++ce,bl x++i⟩ K)
  (c1:mj id A.e ce:=by repeat first|exact True.intro|refine And.intro ⟨rfl,rfl⟩ ?_) (m:nC id A.m i:=by repeat first|exact True.intro|refine And.intro ⟨rfl,rfl,rfl⟩ ?_):VCode P n (.seq a b) A K:=by
 refine VCode.seq ((aj j h1).mono λe A o X p s w d g=>?_);cases e with
 |normal=>
  obtain⟨x,f,_,hM,k⟩:=(show nD σ ch bl ce i M (λ_=>True) A from d).go;exact⟨_,h2 x hM,g.le k.le⟩
 |exit id=>exact⟨A,d,g⟩
 |goto l=>exact⟨A,d,g⟩
 |ret=>exact⟨A,d,g⟩
 |panic ch=>exact⟨A,d,g⟩
 |outgrown=>exact⟨A,d,g⟩
end
section
variable{P:Program}{τ:Tau}{n:Nat}{A:AS}{K:Exit ->AS ->Prop}{c:Code}
theorem lw(t k:Nat){e sz:Nat}{l:List (List PV)}(h:VCode P n c ((A.upd [] (frzK A [k])).upd [(t,.c (.p (.sl l)))] []) K)(g:look A.e t=some (.c (.row k)):=by rfl)(d:look A.m k=some (.rw e sz l):=by rfl):VCode P n c A K:=by
 refine h.of λz X D s w ⟨C,ρ,f⟩=>?_;obtain⟨v,i,a⟩:=f.slot t _ g (λj m=>⟨.rw e sz l,by
  have o:j=k:=by simpa[AV.refs,AC.refs]using m
  subst o;exact d,rfl⟩)
 obtain⟨q,r,E,u⟩:=f.frz [k] λ_ _=>rfl;have x:=u k Od l (.inl ⟨e,sz,d⟩);have a:v=ρ k:=a;subst a;refine⟨q,ρ,r.slots (wr:=[(t,.c (.p (.sl l)))]) (λF b y _=>?_) λ_ _=>rfl⟩;obtain⟨rfl,rfl⟩:=bN y;exact⟨_,i,x⟩
theorem nE(j i k:Nat){e sz T:Nat}{g:Nat}{cs:List AC}{l:List (List PV)}(h:VCode P n c ((A.upd [] (frzK A [k])).upd [] [(j,.st g T (cs.set i (.p (.sl l))))]) K)(H:look A.m j=some (.st g T cs):=by rfl)(hi:cs[i]?=some (.row k):=by rfl)(v:look A.m k=some (.rw e sz l):=by rfl)(o:k≠j:=by decide):VCode P n c A K:=by
 refine h.of λw0 X C0 s w ⟨C,ρ,I⟩=>?_;obtain⟨L,y,h2,M⟩:=I.frz [k] λ_ _=>rfl;have N:=M k Od l (.inl ⟨e,sz,v⟩);have f:look (A.upd [] (frzK A [k])).m j=some (.st g T cs):=by
  show look (frzK A [k]++A.m) j=_;rw[pF]
  ·exact H
  ·cases O:look (frzK A [k]) j with
   |none=>rfl
   |some x=>
    obtain⟨Q,_⟩:=j6 O;exact absurd (by simpa using Q) (Ne.symm o)
 obtain⟨b,R,V,W,g3,Y,D⟩:=y.ent j _ f;have r:Lv (A.upd [] (frzK A [k])) (AC.row k).refs:=λz Z=>by
  have ez:z=k:=by simpa[AC.refs]using Z
  subst ez;exact⟨.fz l,by
   show look (frzK A [z]++A.m) z=_;rw[j5,uN Od v],rfl⟩
 exact⟨L,_,y.modSt (wr:=[]) (cs':=cs.set i (.p (.sl l))) (us':=R) f V ((Kp.refl [] w).weak Od) W (by simpa using Y) (λq c u d E=>by
  rw[List.getElem?_set]at d
  by_cases F:i=q
  ·subst F
   simp only[if_true]at d;split at d
   ·obtain rfl:=JB d
    obtain⟨o1,o2⟩:=D i _ u hi E;refine⟨o1,λ_=>?_⟩;have hr:u=ρ k:=o2 r;rw[hr];exact N
   ·cases d
  ·rw[if_neg F]at d
   exact D q c u d E) (s':=s) (λt a ha=>by cases ha) (λ_ _=>rfl)⟩
end
end Go.Wx
namespace Lv
structure Atom where
 var:Int
 add:Int
deriving Inhabited,DecidableEq
structure aO where
 low:Int
 add:Int
 high:Int
deriving Inhabited,DecidableEq
abbrev G:=Int ->Int ->Option Int
def putG(g:G)(x y v:Int):G:=λa b=>if a=x/\b=y then some v else g a b
def bU(o:Option Int)(v:Int):Int:=match o with
 |none=>v
 |some old=>if old<v then v else old
def dp(g:G)(x y v:Int):G:=putG g x y (bU (g x y) v)
def aN{α:Type}(f:Nat ->α ->α):Nat ->α ->α
 |0,a=>a
 |k+1,a=>f k (aN f k a)
def j8(n:Nat):G:=aN (λv g=>putG (putG g v v 0) 0 v 0) n (λ_ _=>none)
def cR(vars:Int)(o:aO):Bool:=decide (o.low<0 \/vars<o.low \/o.high<0 \/vars<o.high \/o.add< -1000 \/1000<o.add)
def iu(vars:Int):List aO ->G ->Option G
 |[],g=>some g
 |o::r,g=>if cR vars o then none else iu vars r (dp g o.low o.high o.add)
def step(m low high:Nat)(g:G):G:=match g low m,g m high with
 |some a,some b=>dp g low high (a+b)
 |_,_=>g
def jF(n m low:Nat)(g:G):G:=aN (step m low) n g
def pass(n m:Nat)(g:G):G:=aN (jF n m) n g
def ox(g:G)(v:Nat):Bool:=decide (0<(g v v).getD 0)
def iR(n:Nat)(g:G):Bool:=(List.range n).any (ox g)
def jc(n:Nat):Nat ->Nat ->G ->Option G
 |0,_,g=>some g
 |f+1,m,g=>if iR n (pass n m g)then none else jc n f (m+1) (pass n m g)
def dZ(vars:Int)(os:List aO):Except Int G:=
 if vars<0 \/16<vars then .error 1
 else if 64<os.length then .error 5
 else match iu vars os (j8 (vars.toNat+1))with
  |none=>.error 1
  |some g=>match jc (vars.toNat+1) (vars.toNat+1) 0 g with
   |none=>.error 7
   |some g'=>.ok g'
def non:Int:=-1000000000
def bD(v:Nat)(s:List Int×Bool):List Int×Bool:=
 if s.1.getD 0 0≠non/\s.1.getD v 0<s.1.getD 0 0 then (s.1.set v (s.1.getD 0 0),true)else s
def cq(s:List Int×Bool)(o:aO):List Int×Bool:=
 if s.1.getD o.low.toNat 0≠non/\s.1.getD o.high.toNat 0<s.1.getD o.low.toNat 0+o.add then (s.1.set o.high.toNat (s.1.getD o.low.toNat 0+o.add),true)else s
def bT(n:Nat)(os:List aO)(d:List Int):List Int×Bool:=os.foldl cq (aN bD n (d,false))
def ly(n:Nat)(os:List aO):Nat ->List Int ->Option (List Int)
 |0,_=>none
 |r+1,d=>if (bT n os d).2 then ly n os r (bT n os d).1 else some (bT n os d).1
def jG(n:Nat)(os:List aO)(low:Nat):Option (List Int):=ly n os (n+1) ((List.replicate n non).set low 0)
def gS(vars:Int)(os:List aO):Int:=
 if vars<0 \/16<vars then 1
 else if 64<os.length then 5
 else if os.any (cR vars)then 1
 else if (List.range (vars.toNat+1)).all (λv=>(jG (vars.toNat+1) os v).isSome)then 0 else 7
def Rg(n:Nat)(x:Int):Prop:=0<=x/\x<n
inductive Edge (n:Nat) (os:List aO):Int ->Int ->Int ->Prop
 |zero (y:Int) (h:Rg n y):Edge n os 0 y 0
 |self (y:Int) (h:Rg n y):Edge n os y y 0
 |ord (o:aO) (h:o∈os) (h1:Rg n o.low) (h2:Rg n o.high):Edge n os o.low o.high o.add
inductive Walk (n:Nat) (os:List aO):Int ->Int ->Int ->Prop
 |nil (x:Int) (h:Rg n x):Walk n os x x 0
 |snoc {x y z p q:Int} (h:Walk n os x y p) (e:Edge n os y z q):Walk n os x z (p+q)
theorem Walk.trans{n:Nat}{os:List aO}{x y z p q:Int}(h:Walk n os x y p)(k:Walk n os y z q):Walk n os x z (p+q):=by
 induction k with
 |nil b=>simpa using h
 |snoc k e a=>rw[<- Int.add_assoc];exact .snoc a e
theorem Walk.one{n:Nat}{os:List aO}{x y p:Int}(e:Edge n os x y p)(a:Rg n x):Walk n os x y p:=by
 have:=Walk.snoc (Walk.nil x a) e
 simpa using this
def Ok(n:Nat)(os:List aO)(g:G):Prop:=∀x y v,g x y=some v ->Rg n x/\Rg n y/\Walk n os x y v
def Le(g g':G):Prop:=∀x y v,g x y=some v ->∃v',g' x y=some v'/\v<=v'
theorem Le.refl(g:G):Le g g:=λ_ _ v h=>⟨v,h,Int.le_refl _⟩
theorem Le.trans{a b c:G}(h:Le a b)(k:Le b c):Le a c:=λx y v e=>by
 obtain⟨f,g,j⟩:=h x y v e;obtain⟨d,i,l⟩:=k x y f g;exact⟨d,i,Oo⟩
theorem more_cases(o:Option Int)(v:Int):(bU o v=v/\∀u,o=some u ->u<=v) \/(o=some (bU o v)/\v<=bU o v):=by
 unfold bU;split
 ·exact .inl ⟨rfl,λu h=>by cases h⟩
 ·rename_i a
  split
  ·refine .inl ⟨rfl,λu h=>?_⟩
   have:a=u:=by simpa using h
   omega
  ·exact .inr ⟨rfl,Oo⟩
theorem A6(g:G)(x y v:Int):∃u,dp g x y v x y=some u/\v<=u:=by
 refine⟨bU (g x y) v,by simp[dp,putG],?_⟩;rcases more_cases (g x y) v with ⟨h,_⟩|⟨_,h⟩<;>omega
theorem qp(g:G)(x y v a b:Int)(h:¬ (a=x/\b=y)):dp g x y v a b=g a b:=by simp[dp,putG,h]
theorem raise_cases(g:G)(x y v a b u:Int)(h:dp g x y v a b=some u):g a b=some u \/(a=x/\b=y/\u=v):=by
 by_cases e:a=x/\b=y
 ·obtain⟨rfl,rfl⟩:=e
  simp only[dp,putG,and_self,if_true,Option.some.injEq]at h;rcases more_cases (g a b) v with ⟨d,_⟩|⟨d,_⟩
  ·exact .inr ⟨rfl,rfl,Oo⟩
  ·exact .inl (by rw[d,h])
 ·rw[qp _ _ _ _ _ _ e]at h;exact .inl h
theorem A7(g:G)(x y v:Int):Le g (dp g x y v):=by
 intro a b u d
 by_cases e:a=x/\b=y
 ·obtain⟨rfl,rfl⟩:=e
  refine⟨bU (g a b) v,by simp[dp,putG],?_⟩;rcases more_cases (g a b) v with ⟨f,i⟩|⟨f,_⟩
  ·have:=i u d;omega
  ·rw[d]at f ⊢;have:u=bU (some u) v:=by simpa using f
   omega
 ·exact⟨u,by rw[qp _ _ _ _ _ _ e];exact d,Int.le_refl _⟩
theorem A8{n:Nat}{os:List aO}{g:G}(d:Ok n os g){x y v:Int}(e:Rg n x)(f:Rg n y)(i:Walk n os x y v):Ok n os (dp g x y v):=by
 intro a b u j;rcases raise_cases g x y v a b u j with h|⟨rfl,rfl,rfl⟩
 ·exact d a b u h
 ·exact⟨e,f,i⟩
theorem iS{α:Type}{f:Nat ->α ->α}(p:Nat ->α ->Prop){a:α}(b:p 0 a):∀k,(∀i,i<k ->∀x,p i x ->p (i+1) (f i x)) ->p k (aN f k a)
 |0,_=>b
 |k+1,h=>h k (Nat.lt_succ_self k) _ (iS p b k λi hi=>h i (Nat.lt_succ_of_lt hi))
theorem su{n k:Nat}(h:k<n):Rg n (k:Int):=⟨Oo,Oo⟩
theorem oy(n:Nat):∀k,k<=n ->∀x y v,aN (λv g=>putG (putG g v v 0) 0 v 0) k (λ_ _=>none) x y=some v↔(v=0/\((x=y/\Rg k x) \/(x=0/\Rg k y)))
 |0,_,x,y,v=>by simp[aN,Rg]<;>omega
 |k+1,b,x,y,v=>by
  have a:=oy n k Oo x y v;simp only[aN,putG];unfold Rg at *
  split
  ·rename_i e;simp only[Option.some.injEq];omega
  ·split
   ·rename_i e;simp only[Option.some.injEq];omega
   ·rename_i d f;rw[a];omega
theorem A9(n:Nat)(os:List aO):Ok n os (j8 n):=by
 intro x y v h;obtain⟨rfl,b|b⟩:=(oy n n (KJ _) x y v).1 h
 ·obtain⟨rfl,a⟩:=b;exact⟨a,a,.one (.self _ a) a⟩
 ·obtain⟨rfl,a⟩:=b
  have d:Rg n 0:=by unfold Rg at *;omega
  exact⟨d,a,.one (.zero _ a) d⟩
theorem step_cases(m low high:Nat)(g:G):(∃a b,g low m=some a/\g m high=some b/\step m low high g=dp g low high (a+b)) \/step m low high g=g:=by
 unfold step;split
 ·rename_i a b d e;exact .inl ⟨a,b,d,e,rfl⟩
 ·exact .inr rfl
theorem Ba{m low high:Nat}{g:G}{a b:Int}(ha:g low m=some a)(hb:g m high=some b):step m low high g=dp g low high (a+b):=by
 unfold step;rw[ha,hb]
theorem G6{n:Nat}{os:List aO}{g:G}(d:Ok n os g)(m low high:Nat):Ok n os (step m low high g):=by
 unfold step;split
 ·rename_i a b e f
  obtain⟨i,o,j⟩:=d _ _ _ e;obtain⟨p,k,l⟩:=d _ _ _ f;exact A8 d i k (j.trans l)
 ·exact d
theorem qq(m low high:Nat)(g:G):Le g (step m low high g):=by
 unfold step;split
 ·exact A7 _ _ _ _
 ·exact Le.refl _
theorem v7{n:Nat}{os:List aO}{g:G}(a:Ok n os g)(m:Nat):Ok n os (pass n m g):=
 iS (λ_ g=>Ok n os g) a n λi _ _ b=>iS (λ_ g=>Ok n os g) b n λj _ _ d=>G6 d m i j
theorem sA(n m:Nat)(g:G):Le g (pass n m g):=
 iS (λ_ a=>Le g a) (Le.refl g) n λi _ _ b=>iS (λ_ a=>Le g a) b n λj _ y d=>d.trans (qq m i j y)
theorem G7{n m:Nat}{g:G}(z:g m m=some 0):
  ∀x y v,pass n m g x y=some v ->g x y=some v \/∃a b,g x m=some a/\g m y=some b/\v=a+b:=by
 have u:∀(k:G),(∀i,k i m=g i m) ->(∀i,k m i=g m i) ->(∀x y v,k x y=some v ->g x y=some v \/∃a b,g x m=some a/\g m y=some b/\v=a+b) ->∀l d:Nat,
   (∀i,step m l d k i m=g i m)/\(∀i,step m l d k m i=g m i)/\∀x y v,step m l d k x y=some v ->g x y=some v \/∃a b,g x m=some a/\g m y=some b/\v=a+b:=by
  intro k q r t l d;rcases step_cases m l d k with ⟨a,b,D,w,e⟩|e
  ·rw[e]
   have o:=D;have p:=w;rw[q]at o;rw[r]at p;refine⟨λi=>?_,λi=>?_,λx y v E=>?_⟩
   ·by_cases e:i=l/\(m:Int)=d
    ·obtain⟨rfl,F⟩:=e
     rw[<- F]at p ⊢;rw[z]at p;have:b=0:=by simpa using p.symm
     subst this;have s:k l m=some a:=D;simp only[dp,putG,and_self,if_true,s,bU,Int.add_zero,Int.lt_irrefl,if_false];rw[<- q];exact s.symm
    ·rw[qp _ _ _ _ _ _ e];exact q i
   ·by_cases e:(m:Int)=l/\i=d
    ·obtain⟨H,rfl⟩:=e
     rw[<- H]at o ⊢;rw[z]at o;have:a=0:=by simpa using o.symm
     subst this;simp only[dp,putG,and_self,if_true,w,bU,Int.zero_add,Int.lt_irrefl,if_false];rw[<- r];exact w.symm
    ·rw[qp _ _ _ _ _ _ e];exact r i
   ·rcases raise_cases _ _ _ _ _ _ _ E with h|⟨rfl,rfl,rfl⟩
    ·exact t _ _ _ h
    ·exact .inr ⟨a,b,o,p,rfl⟩
  ·rw[e];exact⟨q,r,t⟩
 have:=iS (f:=jF n m) (λ_ k=>(∀i,k i m=g i m)/\(∀i,k m i=g m i)/\∀x y v,k x y=some v ->g x y=some v \/∃a b,g x m=some a/\g m y=some b/\v=a+b)
  (a:=g) ⟨λ_=>rfl,λ_=>rfl,λ_ _ _ h=>.inl h⟩ n λi _ _ ⟨q,r,t⟩=>
   iS (f:=step m i) (λ_ k=>(∀i,k i m=g i m)/\(∀i,k m i=g m i)/\∀x y v,k x y=some v ->g x y=some v \/∃a b,g x m=some a/\g m y=some b/\v=a+b)
    ⟨q,r,t⟩ n λj _ y ⟨I,L,M⟩=>u y I L M i j
 exact this.2.2
theorem sB{n m:Nat}{g:G}{x y a b:Int}(l:Rg n x)(H:Rg n y)(ha:g x m=some a)(hb:g m y=some b):∃v,pass n m g x y=some v/\a+b<=v:=by
 obtain⟨i,rfl⟩:=Int.eq_ofNat_of_zero_le l.1;obtain⟨j,rfl⟩:=Int.eq_ofNat_of_zero_le H.1;have O:i<n:=by have:=l.2;omega
 have Q:j<n:=by have:=H.2;omega
 have o:∀(f:G),Le g f ->∀k,j<k ->∃v,aN (step m i) k f i j=some v/\a+b<=v:=by
  intro f t k
  induction k with
  |zero=>omega
  |succ k w=>
   intro R
   by_cases e:j=k
   ·subst e
    have d:Le g (aN (step m i) j f):=iS (λ_ x=>Le g x) t j λq _ x l=>l.trans (qq m i q x);obtain⟨I,p,L⟩:=d _ _ _ ha;obtain⟨M,V,X⟩:=d _ _ _ hb;simp only[aN];have:step m i j (aN (step m i) j f)=dp (aN (step m i) j f) i j (I+M):=by
     exact Ba p V
    rw[this];obtain⟨u,W,N⟩:=A6 (aN (step m i) j f) i j (I+M);exact⟨u,W,Oo⟩
   ·obtain⟨v,D,d⟩:=w Oo
    obtain⟨E,p,L⟩:=qq m i k _ _ _ _ D;exact⟨E,p,Oo⟩
 have s:∀k,i<k ->∃v,aN (jF n m) k g i j=some v/\a+b<=v:=by
  intro k
  induction k with
  |zero=>omega
  |succ k w=>
   intro R
   by_cases e:i=k
   ·subst e
    have d:Le g (aN (jF n m) i g):=iS (λ_ x=>Le g x) (Le.refl g) i λq _ _ l=>iS (λ_ z=>Le g z) l n λr _ z F=>F.trans (qq m q r z);exact o _ d n Q
   ·obtain⟨v,D,d⟩:=w Oo
    have:Le (aN (jF n m) k g) (jF n m k (aN (jF n m) k g)):=iS (λ_ z=>Le (aN (jF n m) k g) z) (Le.refl _) n λr _ z F=>F.trans (qq m k r z);obtain⟨E,p,L⟩:=this _ _ _ D;exact⟨E,p,Oo⟩
 exact s n O
def Tri(m:Nat)(g:G):Prop:=∀(k:Nat) x y a b,k<m ->g x k=some a ->g k y=some b ->∃v,g x y=some v/\a+b<=v
theorem Bb{n:Nat}{g:G}(h:iR n g=false){v:Nat}(a:v<n){u:Int}(b:g v v=some u):u<=0:=by
 unfold iR at h;have:=List.any_eq_false.1 h v (List.mem_range.2 a);unfold ox at this;simp[b]at this;omega
theorem G8{n:Nat}{g:G}(h:iR n g=true):∃v:Nat,v<n/\∃u,g v v=some u/\0<u:=by
 unfold iR at h;obtain⟨v,b,h⟩:=List.any_eq_true.1 h;refine⟨v,List.mem_range.1 b,?_⟩;unfold ox at h;cases a:g v v with
 |none=>simp[a]at h
 |some u=>simp[a]at h;exact⟨u,rfl,h⟩
def Diag(n:Nat)(g:G):Prop:=∀v:Nat,v<n ->∃u,g v v=some u/\0<=u
theorem Diag.le{n:Nat}{g a:G}(h:Diag n g)(k:Le g a):Diag n a:=λv b=>by
 obtain⟨u,d,i⟩:=h v b;obtain⟨e,f,j⟩:=k _ _ _ d;exact⟨e,f,Oo⟩
theorem G9{n m:Nat}{os:List aO}(hm:m<n){g:G}(Y:Ok n os g)(Z:Diag n g)(F:Tri m g)(hc:iR n (pass n m g)=false):Tri (m+1) (pass n m g):=by
 have H:g m m=some 0:=by
  obtain⟨u,f,l⟩:=Z m hm;obtain⟨u',i,I⟩:=sA n m g _ _ _ f;have:=Bb hc hm i;rw[f];congr 1;omega
 have s:=G7 (n:=n) H;have Q:=sA n m g;intro k x y a b hk R V;have t:=v7 Y m;have L:=(t _ _ _ R).1;have M:=(t _ _ _ V).2.1;have w:=s _ _ _ R;have z:=s _ _ _ V
 by_cases e:k=m
 ·subst e
  have f:g x k=some a:=by
   rcases w with h|⟨p,q,N,O,rfl⟩
   ·exact h
   ·rw[H]at O;have:q=0:=by simpa using O.symm
    subst this;simpa using N
  have l:g k y=some b:=by
   rcases z with h|⟨p,q,N,O,rfl⟩
   ·exact h
   ·rw[H]at N;have:p=0:=by simpa using N.symm
    subst this;simpa using O
  exact sB L M f l
 ·have j:k<m:=Oo
  rcases w with f|⟨a1,W,f,D,rfl⟩<;>rcases z with l|⟨X,b2,l,E,rfl⟩
  ·obtain⟨v,o,d⟩:=F k x y a b j f l
   obtain⟨r,i,I⟩:=Q _ _ _ o;exact⟨r,i,Oo⟩
  ·obtain⟨v,o,d⟩:=F k x m a X j f l
   obtain⟨r,i,I⟩:=sB (n:=n) L M o E;exact⟨r,i,Oo⟩
  ·obtain⟨v,o,d⟩:=F k m y W b j D l
   obtain⟨r,i,I⟩:=sB (n:=n) L M f o;exact⟨r,i,Oo⟩
  ·obtain⟨v,o,d⟩:=F k m m W X j D l
   rw[H]at o;have:v=0:=by simpa using o.symm
   obtain⟨r,i,I⟩:=sB (n:=n) L M f E;exact⟨r,i,Oo⟩
theorem wa{n:Nat}{os:List aO}:∀(f m:Nat) (g:G),m+f=n ->Ok n os g ->Diag n g ->Tri m g ->(1<=m ->iR n g=false) ->
  match jc n f m g with
  |none=>∃x w,Walk n os x x w/\0<w
  |some b=>Ok n os b/\Le g b/\Tri n b/\(1<=n ->∀v:Nat,v<n ->b v v=some 0)
 |0,m,g,j,d,e,k,hc=>by
  simp only[jc];have:m=n:=Oo
  subst this;refine⟨d,Le.refl _,k,λl v o=>?_⟩;obtain⟨u,i,p⟩:=e v o;have:=Bb (hc l) o i;rw[i];congr 1;omega
 |f+1,m,g,j,d,e,k,hc=>by
  simp only[jc];cases a:iR n (pass n m g)with
  |true=>
   simp only[if_true];obtain⟨v,o,u,l,i⟩:=G8 a;exact⟨v,u,(v7 d m _ _ _ l).2.2,i⟩
  |false=>
   simp only[Bool.false_eq_true,if_false];have:=wa (os:=os) f (m+1) (pass n m g) Oo (v7 d m) (e.le (sA n m g)) (G9 Oo d e k a) (λ_=>a);cases h:jc n f (m+1) (pass n m g)with
   |none=>rw[h]at this;exact this
   |some b=>rw[h]at this;exact⟨this.1,(sA n m g).trans this.2.1,this.2.2⟩
theorem wb{vars:Int}{n:Nat}(l:(n:Int)=vars+1){os:List aO}:∀(r:List aO) (g:G),(∀o∈r,o∈os) ->Ok n os g ->∀b,iu vars r g=some b ->Ok n os b/\Le g b/\(∀o∈r,∃v,b o.low o.high=some v/\o.add<=v)/\∀o∈r,cR vars o=false
 |[],g,_,d,b,h=>by
  simp only[iu,Option.some.injEq]at h;subst h;exact⟨d,Le.refl _,⟨λo e=>(by cases e),λo e=>(by cases e)⟩⟩
 |o::r,g,hr,d,b,h=>by
  simp only[iu]at h;cases hb:cR vars o with
  |true=>rw[hb]at h;simp at h
  |false=>
   rw[hb]at h;simp only[Bool.false_eq_true,if_false]at h;have m:¬ (o.low<0 \/vars<o.low \/o.high<0 \/vars<o.high \/o.add< -1000 \/1000<o.add):=by simpa[cR]using hb
   have f:Rg n o.low:=by unfold Rg;omega
   have j:Rg n o.high:=by unfold Rg;omega
   have i:=A8 d f j (Walk.one (.ord o (hr o Od) f j) f);obtain⟨p,k,s,t⟩:=wb l r _ (λq a=>hr q (by simp[a])) i b h;refine⟨p,(A7 _ _ _ _).trans k,λq a=>?_,λq a=>?_⟩
   ·rcases List.mem_cons.1 a with rfl|a
    ·obtain⟨u,w,z⟩:=A6 g q.low q.high q.add
     obtain⟨x,y,D⟩:=k _ _ _ w;exact⟨x,y,Oo⟩
    ·exact s q a
   ·rcases List.mem_cons.1 a with rfl|a
    ·exact hb
    ·exact t q a
theorem wd{vars:Int}:∀(r:List aO) (g:G),(iu vars r g=none↔r.any (cR vars)=true)
 |[],g=>by simp[iu]
 |o::r,g=>by
  simp only[iu,List.any_cons];cases hb:cR vars o with
  |true=>simp
  |false=>simpa using wd r _
structure sC(n:Nat)(os:List aO)(g:G):Prop where
 walk:∀x y v,g x y=some v ->Rg n x/\Rg n y/\Walk n os x y v
 most:∀x y p,Walk n os x y p ->∃v,g x y=some v/\p<=v
 zero:∀x,Rg n x ->g x x=some 0
theorem Bc{vars:Int}{os:List aO}{g:G}(h:dZ vars os= .ok g):sC (vars.toNat+1) os g/\0<=vars/\vars<=16/\os.length<=64/\os.any (cR vars)=false:=by
 unfold dZ at h;split at h
 ·cases h
 ·rename_i j
  split at h
  ·cases h
  ·rename_i hl
   split at h
   ·cases h
   ·rename_i m q
    split at h
    ·cases h
    ·rename_i r s
     have:r=g:=by simpa using h
     subst this;have N:((vars.toNat+1:Nat):Int)=vars+1:=Oo
     obtain⟨O,E,Q,R⟩:=wb N os (j8 (vars.toNat+1)) (λ_ h=>h) (A9 _ os) m q;have V:Diag (vars.toNat+1) m:=Diag.le (λv j=>⟨0,(oy _ _ (KJ _) _ _ _).2 ⟨rfl,.inl ⟨rfl,su j⟩⟩,Int.le_refl _⟩) E;have:=wa (os:=os) (vars.toNat+1) 0 m Oo O V (λk _ _ _ _ hk=>Oo) (λh=>Oo);rw[s]at this;obtain⟨F,H,W,X⟩:=this;have t:∀x,Rg (vars.toNat+1) x ->r x x=some 0:=λx l=>by
      obtain⟨i,rfl⟩:=Int.eq_ofNat_of_zero_le l.1;exact X Oo i (by have:=l.2;omega)
     have f:∀x y p,Edge (vars.toNat+1) os x y p ->∃v,r x y=some v/\p<=v:=by
      intro x y p e;cases e with
      |zero _ w=>
       obtain⟨u,z,I⟩:=(E.trans H) _ _ _ ((oy _ _ (KJ _) 0 y 0).2 ⟨rfl,.inr ⟨rfl,w⟩⟩);exact⟨u,z,I⟩
      |self _ w=>exact⟨0,t _ w,Int.le_refl _⟩
      |ord o D _ _=>
       obtain⟨u,z,I⟩:=Q o D;obtain⟨Y,Z,h4⟩:=H _ _ _ z;exact⟨Y,Z,Oo⟩
     refine⟨⟨F,λx y p L=>?_,t⟩,Oo,Oo,Oo,?_⟩
     ·induction L with
      |nil l=>exact⟨0,t _ l,Int.le_refl _⟩
      |snoc L e ih=>
       obtain⟨a,M,hp⟩:=ih;obtain⟨b,hb,hq⟩:=f _ _ _ e;have d:=(F _ _ _ M).2.1;obtain⟨i,rfl⟩:=Int.eq_ofNat_of_zero_le d.1;obtain⟨v,j,a0⟩:=W i _ _ a b (by have:=d.2;omega) M hb;exact⟨v,j,Oo⟩
     ·rw[List.any_eq_false]
      exact λo D=>by simp[R o D]
theorem closedF_err{vars:Int}{os:List aO}{e:Int}(h:dZ vars os= .error e):
  ((vars<0 \/16<vars)/\e=1) \/(¬ (vars<0 \/16<vars)/\64<os.length/\e=5) \/(¬ (vars<0 \/16<vars)/\¬ 64<os.length/\os.any (cR vars)=true/\e=1) \/
  (¬ (vars<0 \/16<vars)/\¬ 64<os.length/\os.any (cR vars)=false/\e=7/\∃x w,Walk (vars.toNat+1) os x x w/\0<w):=by
 unfold dZ at h;split at h
 ·rename_i a;exact .inl ⟨a,by simpa using h.symm⟩
 ·rename_i a
  split at h
  ·rename_i f;exact .inr (.inl ⟨a,f,by simpa using h.symm⟩)
  ·rename_i f
   split at h
   ·rename_i j;exact .inr (.inr (.inl ⟨a,f,(wd os _).1 j,by simpa using h.symm⟩))
   ·rename_i g b
    have d:os.any (cR vars)=false:=by
     cases l:os.any (cR vars)with
     |false=>rfl
     |true=>rw[(wd os _).2 l]at b;cases b
    split at h
    ·rename_i i
     have m:((vars.toNat+1:Nat):Int)=vars+1:=Oo
     obtain⟨o,p,r,s⟩:=wb m os (j8 (vars.toNat+1)) (λ_ h=>h) (A9 _ os) g b;have q:Diag (vars.toNat+1) g:=Diag.le (λv a=>⟨0,(oy _ _ (KJ _) _ _ _).2 ⟨rfl,.inl ⟨rfl,su a⟩⟩,Int.le_refl _⟩) p;have:=wa (os:=os) (vars.toNat+1) 0 g Oo o q (λk _ _ _ _ t=>Oo) (λh=>Oo);rw[i]at this;exact .inr (.inr (.inr ⟨a,f,d,by simpa using h.symm,this⟩))
    ·cases h
def gt(d:List Int)(v:Nat):Int:=d.getD v 0
theorem iT(d:List Int)(i:Nat)(x:Int)(v:Nat):gt (d.set i x) v=if i=v/\v<d.length then x else gt d v:=by
 unfold gt;simp only[List.getD_eq_getElem?_getD,List.getElem?_set]
 by_cases h:i=v
 ·subst h
  by_cases a:i<d.length
  ·simp[a]
  ·simp[a]
 ·simp[h]
structure Inv(n:Nat)(os:List aO)(low:Int)(B:Int)(d:List Int):Prop where
 len:d.length=n
 bd:∀v,v<n ->gt d v=non \/(-B<=gt d v/\gt d v<=B)
 walk:∀v,v<n ->gt d v≠non ->Walk n os low v (gt d v)
def Good(n:Nat)(os:List aO):Prop:=∀o∈os,Rg n o.low/\Rg n o.high/\ -1000<=o.add/\o.add<=1000
def GeD(n:Nat)(d d':List Int):Prop:=∀v,v<n ->gt d v<=gt d' v
theorem GeD.refl(n:Nat)(d:List Int):GeD n d d:=λ_ _=>Int.le_refl _
theorem GeD.trans{n:Nat}{a b c:List Int}(h:GeD n a b)(k:GeD n b c):GeD n a c:=λv d=>Int.le_trans (h v d) (k v d)
theorem Inv.mono{n:Nat}{os:List aO}{low B a:Int}{d:List Int}(h:Inv n os low B d)(f:B<=a):Inv n os low a d:=
 ⟨h.len,λv e=>by rcases h.bd v e with b|b;exact .inl b;exact .inr Oo,h.walk⟩
theorem Ha{n:Nat}{os:List aO}{low B:Int}{s:List Int×Bool}(h:Inv n os low B s.1){v:Nat}(f:v<n):
  Inv n os low B (bD v s).1/\GeD n s.1 (bD v s).1/\(gt s.1 0≠non ->gt s.1 0<=gt (bD v s).1 v)/\((bD v s).2=false ->bD v s=s/\(gt s.1 0=non \/gt s.1 0<=gt s.1 v))/\((bD v s).2=true ->s.2=true \/∃u,u<n/\gt s.1 u<gt (bD v s).1 u):=by
 unfold bD;split
 ·rename_i i
  obtain⟨p,q⟩:=i;have j:gt s.1 0≠non:=p;have b:gt s.1 v<gt s.1 0:=q;have o:0<n:=Oo
  have k:=h.bd 0 o;refine⟨⟨by simp[h.len],λu g=>?_,λu g a=>?_⟩,λu g=>?_,λ_=>?_,⟨λr=>(by cases r),λ_=>.inr ⟨v,f,by simp only[iT,true_and];rw[if_pos (by rw[h.len];exact f)];exact b⟩⟩⟩
  ·simp only[iT];split
   ·exact k
   ·exact h.bd u g
  ·simp only[iT]at a ⊢;split
   ·rename_i e
    obtain⟨l,_⟩:=e;subst l;have t:=h.walk 0 o j;have:=Walk.snoc t (.zero (v:Int) (su f))
    simpa[gt]using this
   ·rename_i e;rw[if_neg e]at a;exact h.walk u g a
  ·simp only[iT];split
   ·rename_i e;obtain⟨l,_⟩:=e;subst l;exact Int.le_of_lt b
   ·exact Int.le_refl _
  ·simp only[iT,true_and];rw[if_pos (by rw[h.len];exact f)];exact Int.le_refl _
 ·rename_i i
  have d:gt s.1 0=non \/gt s.1 0<=gt s.1 v:=by
   unfold gt
   by_cases e:s.1.getD 0 0=non
   ·exact .inl e
   ·exact .inr (by
     have:¬ (s.1.getD v 0<s.1.getD 0 0):=λm=>i ⟨e,m⟩;omega)
  exact⟨h,GeD.refl _ _,λa=>d.resolve_left a,λ_=>⟨rfl,d⟩,λw=>.inl w⟩
theorem Hc{n:Nat}{os:List aO}{low B:Int}{s:List Int×Bool}(h:Inv n os low B s.1){o:aO}(q:o∈os)(w:Good n os):
  Inv n os low (B+1000) (cq s o).1/\GeD n s.1 (cq s o).1/\(gt s.1 o.low.toNat≠non ->gt s.1 o.low.toNat+o.add<=gt (cq s o).1 o.high.toNat)/\
   ((cq s o).2=false ->cq s o=s/\(gt s.1 o.low.toNat=non \/gt s.1 o.low.toNat+o.add<=gt s.1 o.high.toNat))/\((cq s o).2=true ->s.2=true \/∃u,u<n/\gt s.1 u<gt (cq s o).1 u):=by
 obtain⟨x,y,z,D⟩:=w o q;unfold Rg at x y;have d:o.low.toNat<n:=Oo
 have b:o.high.toNat<n:=Oo
 have l:=h.bd _ d;unfold cq;split
 ·rename_i m
  obtain⟨E,F⟩:=m;have f:gt s.1 o.low.toNat≠non:=E;have g:gt s.1 o.high.toNat<gt s.1 o.low.toNat+o.add:=F;have i:=l.resolve_left f;refine⟨⟨by simp[h.len],λu k=>?_,λu k a=>?_⟩,λu k=>?_,λ_=>?_,⟨λH=>(by cases H),λ_=>.inr ⟨o.high.toNat,b,by simp only[iT,true_and];rw[if_pos (by rw[h.len];exact b)];exact g⟩⟩⟩
  ·simp only[iT];split
   ·right;unfold gt at i;omega
   ·rcases h.bd u k with r|r
    ·exact .inl r
    ·exact .inr Oo
  ·simp only[iT]at a ⊢;split
   ·rename_i e
    obtain⟨t,_⟩:=e;have v:=h.walk _ d f;have I:((o.low.toNat:Nat):Int)=o.low:=Oo
    have L:((u:Nat):Int)=o.high:=Oo
    rw[I]at v;have:=Walk.snoc v (.ord o q (by unfold Rg;omega) (by unfold Rg;omega));rw[L];exact this
   ·rename_i e;rw[if_neg e]at a;exact h.walk u k a
  ·simp only[iT];split
   ·rename_i e;obtain⟨t,_⟩:=e;subst t;exact Int.le_of_lt g
   ·exact Int.le_refl _
  ·simp only[iT,true_and];rw[if_pos (by rw[h.len];exact b)];exact Int.le_refl _
 ·rename_i m
  have j:gt s.1 o.low.toNat=non \/gt s.1 o.low.toNat+o.add<=gt s.1 o.high.toNat:=by
   unfold gt
   by_cases e:s.1.getD o.low.toNat 0=non
   ·exact .inl e
   ·exact .inr (by
     have:¬ (s.1.getD o.high.toNat 0<s.1.getD o.low.toNat 0+o.add):=λp=>m ⟨e,p⟩;omega)
  exact⟨h.mono Oo,GeD.refl _ _,λa=>j.resolve_left a,λ_=>⟨rfl,j⟩,λM=>.inl M⟩
theorem sD{n:Nat}{os:List aO}{low B:Int}{d f:List Int}(h:Inv n os low B d)(i:B<1000000000)(a:GeD n d f){v:Nat}(g:v<n)(b:gt d v≠non):gt f v≠non:=by
 have j:=(h.bd v g).resolve_left b;have k:=a v g;intro e;unfold non at e;omega
theorem we{n:Nat}{os:List aO}{low B:Int}{d:List Int}(h:Inv n os low B d)(q:B<1000000000):∀k,k<=n ->
  Inv n os low B (aN bD k (d,false)).1/\GeD n d (aN bD k (d,false)).1/\(gt d 0≠non ->∀v,v<k ->gt d 0<=gt (aN bD k (d,false)).1 v)/\
   ((aN bD k (d,false)).2=false ->aN bD k (d,false)=(d,false)/\∀v,v<k ->gt d 0=non \/gt d 0<=gt d v)/\((aN bD k (d,false)).2=true ->∃u,u<n/\gt d u<gt (aN bD k (d,false)).1 u)
 |0,_=>⟨h,GeD.refl _ _,⟨λ_ v j=>Oo,⟨λ_=>⟨rfl,λv j=>Oo⟩,λl=>(by cases l)⟩⟩⟩
 |k+1,M=>by
  obtain⟨w,f,x,y,z⟩:=we h q k Oo;obtain⟨D,m,E,F,H⟩:=Ha w (v:=k) Oo;refine⟨D,f.trans m,λa v j=>?_,λg=>?_,λl=>?_⟩
  ·have r:0<n:=Oo
   by_cases e:v=k
   ·subst e
    have I:=sD h q f r a;have:=E I;have o:=f 0 r;simp only[aN];omega
   ·have i:=x a v Oo
    have o:=m v Oo;simp only[aN];omega
  ·simp only[aN]at g ⊢
   obtain⟨e,s⟩:=F g;rw[e]at g ⊢;obtain⟨t,p⟩:=y g;rw[t]at s;refine⟨t,λv j=>?_⟩
   by_cases L:v=k
   ·subst L;exact s
   ·exact p v Oo
  ·rcases H l with i|⟨u,b,i⟩
   ·obtain⟨u,b,o⟩:=z i
    exact⟨u,b,Int.lt_of_lt_of_le o (m u b)⟩
   ·exact⟨u,b,Int.lt_of_le_of_lt (f u b) i⟩
theorem wg{n:Nat}{os:List aO}{low:Int}(k:Good n os):∀(r:List aO) (B:Int) (s:List Int×Bool),(∀o∈r,o∈os) ->Inv n os low B s.1 ->B+1000*r.length<999000000 ->
  Inv n os low (B+1000*r.length) (r.foldl cq s).1/\GeD n s.1 (r.foldl cq s).1/\(∀o∈r,gt s.1 o.low.toNat≠non ->gt s.1 o.low.toNat+o.add<=gt (r.foldl cq s).1 o.high.toNat)/\
   ((r.foldl cq s).2=false ->r.foldl cq s=s/\∀o∈r,gt s.1 o.low.toNat=non \/gt s.1 o.low.toNat+o.add<=gt s.1 o.high.toNat)/\((r.foldl cq s).2=true ->s.2=true \/∃u,u<n/\gt s.1 u<gt (r.foldl cq s).1 u)
 |[],B,s,_,h,_=>⟨by simpa using h,GeD.refl _ _,⟨λo l=>(by cases l),⟨λ_=>⟨rfl,λo l=>(by cases l)⟩,λm=>.inl m⟩⟩⟩
 |o::r,B,s,hr,h,D=>by
  simp only[JV]at D;obtain⟨E,j,F,H,I⟩:=Hc h (hr o Od) k;obtain⟨x,p,L,M,N⟩:=wg k r (B+1000) (cq s o) (λq a=>hr q (by simp[a])) E Oo;simp only[List.foldl_cons,JV];have e:B+1000+1000*(r.length:Int)=B+1000*((r.length+1:Nat):Int):=Oo
  rw[e]at x;refine⟨x,j.trans p,λq a b=>?_,λt=>?_,λm=>?_⟩
  ·have w:=k q (hr q a)
   unfold Rg at w;rcases List.mem_cons.1 a with rfl|a
   ·have d:=F b
    have f:=p q.high.toNat Oo;omega
   ·have g:=sD h Oo j (v:=q.low.toNat) Oo b
    have d:=L q a g;have f:=j q.low.toNat Oo;omega
  ·obtain⟨y,O⟩:=M t
   rw[y]at t;obtain⟨z,Q⟩:=H t;refine⟨by rw[y,z],λq a=>?_⟩;rcases List.mem_cons.1 a with rfl|a
   ·exact Q
   ·have:=O q a
    rw[z]at this;exact this
  ·rcases N m with d|⟨u,i,d⟩
   ·rcases I d with f|⟨u,i,f⟩
    ·exact .inl f
    ·exact .inr ⟨u,i,Int.lt_of_lt_of_le f (p u i)⟩
   ·exact .inr ⟨u,i,Int.lt_of_le_of_lt (j u i) d⟩
structure wj(n:Nat)(os:List aO)(d:List Int):Prop where
 zero:∀v,v<n ->gt d 0=non \/gt d 0<=gt d v
 ord:∀o∈os,gt d o.low.toNat=non \/gt d o.low.toNat+o.add<=gt d o.high.toNat
theorem Bd{n:Nat}{os:List aO}{low B:Int}{d:List Int}(l:Good n os)(h:Inv n os low B d)(r:B+1000*os.length<999000000):
  Inv n os low (B+1000*os.length) (bT n os d).1/\GeD n d (bT n os d).1/\(gt d 0≠non ->∀v,v<n ->gt d 0<=gt (bT n os d).1 v)/\(∀o∈os,gt d o.low.toNat≠non ->gt d o.low.toNat+o.add<=gt (bT n os d).1 o.high.toNat)/\
   ((bT n os d).2=false ->(bT n os d).1=d/\wj n os d)/\((bT n os d).2=true ->∃u,u<n/\gt d u<gt (bT n os d).1 u):=by
 obtain⟨s,g,t,w,x⟩:=we h Oo n (KJ _);obtain⟨y,j,z,D,E⟩:=wg l os B (aN bD n (d,false)) (λ_ h=>h) s r;refine⟨y,g.trans j,λa v m=>?_,λo p a=>?_,λi=>?_,λF=>?_⟩
 ·have b:=t a v m
  have k:=j v m;unfold bT;omega
 ·have H:=l o p
  unfold Rg at H;have e:=sD h Oo g (v:=o.low.toNat) Oo a;have b:=z o p e;have k:=g o.low.toNat Oo;unfold bT;omega
 ·obtain⟨I,q⟩:=D i
  unfold bT at i ⊢;rw[I]at i ⊢;obtain⟨L,M⟩:=w i;rw[L]at q ⊢;exact⟨rfl,M,q⟩
 ·rcases E F with b|⟨u,f,b⟩
  ·obtain⟨u,f,k⟩:=x b
   exact⟨u,f,Int.lt_of_lt_of_le k (j u f)⟩
  ·exact⟨u,f,Int.lt_of_le_of_lt (g u f) b⟩
theorem sE{n:Nat}{os:List aO}{low:Int}(g:Good n os)(hl:os.length<=64):∀(r:Nat) (B:Int) (d a:List Int),Inv n os low B d ->B+64000*r<900000000 ->ly n os r d=some a ->Inv n os low 900000000 a/\GeD n d a/\wj n os a
 |0,_,_,_,_,_,h=>by simp[ly]at h
 |r+1,B,d,a,hi,s,h=>by
  have i:(1000*os.length:Int)<=64000:=Oo
  obtain⟨j,k,_,_,l,_⟩:=Bd g hi Oo;simp only[ly]at h;split at h
  ·obtain⟨m,o,p⟩:=sE g hl r (B+64000) _ a (j.mono Oo) Oo h
   exact⟨m,k.trans o,p⟩
  ·rename_i q
   have f:(bT n os d).2=false:=by simpa using q
   obtain⟨e,b⟩:=l f;have:(bT n os d).1=a:=by simpa using h
   rw[e]at this;subst this;exact⟨hi.mono Oo,GeD.refl _ _,b⟩
theorem qr{n:Nat}(os:List aO){low:Nat}(hl:low<n):Inv n os low 0 ((List.replicate n non).set low 0)/\gt ((List.replicate n non).set low 0) low=0:=by
 have d:∀v,v<n ->gt (List.replicate n non) v=non:=λv b=>by simp[gt,b]
 refine⟨⟨Od,λv b=>?_,λv b a=>?_⟩,?_⟩
 ·rw[iT];split
  ·exact .inr Oo
  ·exact .inl (d v b)
 ·rw[iT]at a ⊢
  split
  ·rename_i e;obtain⟨rfl,_⟩:=e;exact .nil _ (su hl)
  ·rename_i e;rw[if_neg e]at a;exact absurd (d v b) a
 ·rw[iT,if_pos (by simpa using hl)]
theorem wl{n:Nat}{os:List aO}{low:Int}{d:List Int}(u:Good n os)(hi:Inv n os low 900000000 d)(m:wj n os d){x y p:Int}(r:Walk n os x y p)(j:gt d x.toNat≠non):
  gt d y.toNat≠non/\gt d x.toNat+p<=gt d y.toNat:=by
 have v:∀{a b q:Int},Edge n os a b q ->gt d a.toNat≠non ->gt d b.toNat≠non/\gt d a.toNat+q<=gt d b.toNat:=by
  intro a b q e g;cases e with
  |zero _ s=>
   unfold Rg at s;have f:gt d 0≠non:=g;have i:=(m.zero b.toNat Oo).resolve_left f;have k:=(hi.bd 0 Oo).resolve_left f;have:gt d (0:Int).toNat=gt d 0:=rfl;exact⟨λe=>by unfold non at e;omega,Oo⟩
  |self _ s=>exact⟨g,Oo⟩
  |ord o t i k=>
   unfold Rg at i k;have l:=(m.ord o t).resolve_left g;have w:=(hi.bd o.low.toNat Oo).resolve_left g;have D:=u o t;refine⟨λe=>?_,l⟩;unfold non at e;omega
 induction r with
 |nil E=>exact⟨j,Oo⟩
 |snoc r e z=>
  obtain⟨i,k⟩:=z;obtain⟨l,w⟩:=v e i;exact⟨l,Oo⟩
theorem Hd{n:Nat}{os:List aO}{g:G}{low:Nat}{d:List Int}(y:n<=17)(j:Good n os)(hl:os.length<=64)(hc:sC n os g)(b:low<n)(h:jG n os low=some d):
  d.length=n/\∀v:Nat,v<n ->(g low v=none/\gt d v=non) \/(∃p,g low v=some p/\gt d v=p/\p≠non):=by
 obtain⟨k,z⟩:=qr os b;obtain⟨i,l,s⟩:=sE j hl (n+1) 0 _ d k Oo h;have m:0<=gt d low:=by have:=l low b;omega
 have f:gt d low≠non:=λe=>by unfold non at e;omega
 refine⟨i.len,λv u=>?_⟩
 by_cases a:gt d v=non
 ·left
  refine⟨?_,a⟩;cases o:g low v with
  |none=>rfl
  |some p=>
   obtain⟨_,_,q⟩:=hc.walk _ _ _ o;have:=(wl j i s q (by simpa using f)).1;exact absurd a (by simpa using this)
 ·right
  have q:=i.walk v u a;obtain⟨p,t,w⟩:=hc.most _ _ _ q;obtain⟨_,_,r⟩:=hc.walk _ _ _ t;have x:=(wl j i s r (by simpa using f)).2;simp only[Int.toNat_natCast]at x;have e:gt d v=p:=Oo
  exact⟨p,t,e,e▸a⟩
theorem He{n:Nat}{os:List aO}(t:n<=17)(l:Good n os)(hl:os.length<=64){x w:Int}(m:Walk n os x x w)(o:0<w):∃low,low<n/\jG n os low=none:=by
 have g:Rg n x:=by
  have:∀{a b p:Int},Walk n os a b p ->Rg n a:=by
   intro a b p h
   induction h with
   |nil g=>exact g
   |snoc _ _ q=>exact q
  exact this m
 refine⟨x.toNat,by unfold Rg at g;omega,?_⟩;cases h:jG n os x.toNat with
 |none=>rfl
 |some d=>
  have f:x.toNat<n:=by unfold Rg at g;omega
  obtain⟨i,u⟩:=qr os f;obtain⟨r,j,s⟩:=sE l hl (n+1) 0 _ d i Oo h;have k:0<=gt d x.toNat:=by have:=j x.toNat f;omega
  have:=(wl l r s m (λe=>by unfold non at e;omega)).2;omega
theorem Be{p q:Nat ->Bool}:∀(l:List Nat),(∀x∈l,q x=true ->p x=true) ->(∃x∈l,p x=true/\q x=false) ->l.countP q<l.countP p
 |[],_,⟨x,b,_⟩=>by cases b
 |a::l,h,⟨x,b,h1,h2⟩=>by
  have d:∀(l:List Nat),(∀x∈l,q x=true ->p x=true) ->l.countP q<=l.countP p:=λl f=>List.countP_mono_left f;simp only[List.countP_cons];rcases List.mem_cons.1 b with rfl|b
  ·have:=d l (λy e=>h y (by simp[e]))
   simp[h1,h2];omega
  ·have:=Be l (λy e=>h y (by simp[e])) ⟨x,b,h1,h2⟩
   have g:=h a Od;cases i:q a<;>cases j:p a<;>simp_all<;>omega
def eW(g:G)(low:Int)(d:List Int)(v:Nat):Bool:=match g low v with
 |none=>false
 |some p=>decide (gt d v=non \/gt d v≠p)
theorem Bf{g:G}{low:Int}{d:List Int}{v:Nat}(h:eW g low d v=true):∃p,g low v=some p/\(gt d v=non \/gt d v≠p):=by
 unfold eW at h;split at h
 ·cases h
 ·rename_i p a;exact⟨p,a,by simpa using h⟩
theorem wn{g:G}{low:Int}{d:List Int}{v:Nat}{p:Int}(a:g low v=some p)(h:eW g low d v=false):gt d v≠non/\gt d v=p:=by
 unfold eW at h;rw[a]at h;simp only[decide_eq_false_iff_not]at h;exact⟨λe=>h (.inl e),Decidable.byContradiction λe=>h (.inr e)⟩
theorem Bg{g:G}{low:Int}{d:List Int}{v:Nat}{p:Int}(a:g low v=some p)(h1:gt d v≠non)(h2:gt d v=p):eW g low d v=false:=by
 unfold eW;rw[a];simp only[decide_eq_false_iff_not];rintro(h|h)
 ·exact h1 h
 ·exact h h2
theorem Bh{n:Nat}{os:List aO}{g:G}{low:Nat}(hg:Good n os)(hl:os.length<=64)(hc:sC n os g)(k:low<n):∀(r:Nat) (B:Int) (d:List Int),Inv n os low B d ->B+64000*r<900000000 ->
  0<=gt d low ->(List.range n).countP (eW g low d)<r ->∃d',ly n os r d=some d'
 |0,_,_,_,_,_,h=>Oo
 |r+1,B,d,hi,hB,h0,V=>by
  have a9:(1000*os.length:Int)<=64000:=Oo
  obtain⟨W,X,k3,k4,k5,k6⟩:=Bd hg hi Oo;simp only[ly];cases hf:(bT n os d).2 with
  |false=>exact⟨_,rfl⟩
  |true=>
   simp only[if_true];have j:∀(d:List Int) (B:Int),Inv n os low B d ->∀v,v<n ->gt d v≠non ->∃p,g low v=some p/\gt d v<=p:=λd B hi v s i=>by
    obtain⟨p,b,j⟩:=hc.most _ _ _ (hi.walk v s i);exact⟨p,b,j⟩
   have w:gt d low≠non:=λe=>by unfold non at e;omega
   have D:∀v,v<n ->∀p,g low v=some p ->gt d v≠non ->p<=gt (bT n os d).1 v ->eW g low (bT n os d).1 v=false:=λv s p b i Y=>by
    have f:=sD hi Oo X s i;obtain⟨q,I,l⟩:=j _ _ W v s f;rw[b]at I;have:p=q:=by simpa using I
    exact Bg b f Oo
   have grow:∀{v:Int} {p:Int},Walk n os low v p ->g low v=some p ->eW g low d v.toNat=true ->∃y,y<n/\eW g low d y=true/\eW g low (bT n os d).1 y=false:=by
    intro v p E;have a0:∀{a v p:Int},Walk n os a v p ->a=low ->g low v=some p ->eW g low d v.toNat=true ->∃y,y<n/\eW g low d y=true/\eW g low (bT n os d).1 y=false:=by
     intro a v p E
     induction E with
     |nil hx=>
      intro ha b m;subst ha;simp only[Int.toNat_natCast]at m;obtain⟨q,I,a1⟩:=Bf m;rw[hc.zero _ hx]at I;have a':(0:Int)=q:=by simpa using I
      obtain⟨q',L,l⟩:=j d B hi low k w;rw[hc.zero _ hx]at L;have a5:(0:Int)=q':=by simpa using L
      rcases a1 with h|h
      ·exact absurd h w
      ·exact absurd Oo h
     | @snoc y z p q E e ih=>
      intro ha b m;subst ha;obtain⟨Z,F,a6⟩:=hc.most _ _ _ E;obtain⟨_,a2,a3⟩:=hc.walk _ _ _ F;obtain⟨t,ht,a7⟩:=hc.most _ _ _ (Walk.snoc a3 e);rw[b]at ht;have b0:p+q=t:=by simpa using ht
      have:Z=p:=Oo
      subst this;unfold Rg at a2;have M:y.toNat<n:=Oo
      have ey:((y.toNat:Nat):Int)=y:=Oo
      cases x:eW g low d y.toNat with
      |true=>exact ih rfl F x
      |false=>
       obtain⟨i,a8⟩:=wn (v:=y.toNat) (p:=Z) (by rw[ey];exact F) x;obtain⟨_,a4,_⟩:=hc.walk _ _ _ b;unfold Rg at a4;have H:z.toNat<n:=Oo
       have ez:((z.toNat:Nat):Int)=z:=Oo
       have b1:gt d y.toNat+q<=gt (bT n os d).1 z.toNat:=by
        cases e with
        |zero _ _=>
         have:=k3 i z.toNat H;have e0:gt d (0:Int).toNat=gt d 0:=rfl;omega
        |self _ _=>have:=X y.toNat M;omega
        |ord o ho _ _=>exact k4 o ho i
       refine⟨z.toNat,H,m,?_⟩;have hb:=(hi.bd y.toNat M).resolve_left i;have f:gt (bT n os d).1 z.toNat≠non:=λe'=>by
        have I:-1000<=q:=by
         cases e with
         |zero _ _=>omega
         |self _ _=>omega
         |ord o ho _ _=>exact(hg o ho).2.2.1
        unfold non at e';omega
       obtain⟨u,N,l⟩:=j _ _ W z.toNat H f;rw[ez,b]at N;have:Z+q=u:=by simpa using N
       exact Bg (p:=Z+q) (by rw[ez];exact b) f Oo
    exact a0 E rfl
   refine Bh hg hl hc k r (B+64000) _ (W.mono Oo) Oo (by have:=X low k;omega)<|KZ (Be (p:=eW g low d) (List.range n) (λv s m=>?_) ?_) Oo
   ·have s:=List.mem_range.1 s
    cases hd:eW g low d v with
    |true=>rfl
    |false=>
     obtain⟨p,b,_⟩:=Bf m;obtain⟨Y,h2⟩:=wn b hd;have:=D v s p b Y (by have:=X v s;omega);rw[this]at m;cases m
   ·obtain⟨O,Q,b2⟩:=k6 hf
    have R:gt (bT n os d).1 O≠non:=by
     rcases hi.bd O Q with h|h
     ·intro e;omega
     ·intro e;unfold non at e;omega
    obtain⟨p,b,l⟩:=j _ _ W O Q R;have m:eW g low d O=true:=by
     cases hd:eW g low d O with
     |true=>rfl
     |false=>obtain⟨_,h2⟩:=wn b hd;omega
    obtain⟨_,_,E⟩:=hc.walk _ _ _ b;obtain⟨y,hy,Y,h2⟩:=grow E b (by simpa using m);exact⟨y,List.mem_range.2 hy,Y,h2⟩
theorem Bi{n:Nat}{os:List aO}{g:G}{low:Nat}(f:n<=17)(e:Good n os)(hl:os.length<=64)(hc:sC n os g)(a:low<n):∃d,jG n os low=some d:=by
 obtain⟨b,i⟩:=qr os a;refine Bh e hl hc a (n+1) 0 _ b Oo Oo ?_;have:=List.countP_le_length (p:=eW g low ((List.replicate n non).set low 0)) (l:=List.range n);simp only[List.length_range]at this;omega
theorem sF{vars:Int}{os:List aO}(b:0<=vars)(h:os.any (cR vars)=false):Good (vars.toNat+1) os:=λo a=>by
 have:=List.any_eq_false.1 h o a;have d:¬ (o.low<0 \/vars<o.low \/o.high<0 \/vars<o.high \/o.add< -1000 \/1000<o.add):=by simpa[cR]using this
 unfold Rg;omega
theorem Bj(vars:Int)(os:List aO):gS vars os=match dZ vars os with
  | .error e=>e
  | .ok _=>0:=by
 cases h:dZ vars os with
 |ok g=>
  obtain⟨q,r,s,t,p⟩:=Bc h;have m:=sF r p;unfold gS;rw[if_neg Oo,if_neg Oo,p];simp only[Bool.false_eq_true,if_false];rw[if_pos];rw[List.all_eq_true];intro v u;obtain⟨d,y⟩:=Bi Oo m t q (List.mem_range.1 u);simp[y]
 |error e=>
  rcases closedF_err h with ⟨a,rfl⟩|⟨a,f,rfl⟩|⟨a,f,l,rfl⟩|⟨a,f,l,rfl,x,w,z,i⟩
  ·unfold gS;rw[if_pos a]
  ·unfold gS;rw[if_neg a,if_pos f]
  ·unfold gS;rw[if_neg a,if_neg f,if_pos l]
  ·have m:=sF Oo l
   obtain⟨o,j,b⟩:=He Oo m Oo z i;unfold gS;rw[if_neg a,if_neg f,l];simp only[Bool.false_eq_true,if_false];rw[if_neg];rw[List.all_eq_true];intro k;have:=k o (List.mem_range.2 j);rw[b]at this;cases this
end Lv
namespace Go.Wx
structure M2(P:Program)(K T:TypeId):Prop where
 eq:∀(a b c d:Int) (w:World),(Op.equal K (.agg #[iV a,iV b]) (.agg #[iV c,iV d])).run P w= .ok (decide (a=c/\b=d)) w
 ck:∀(e:Bool) (a b:Int) (w:World),(Instr.checkKey e 10000 K (.agg #[iV a,iV b])).run P w= .ok () w
 k:∃fs,P.underlying K=some (.struct fs)
 t:P.underlying T=some (.map K 3)
 z:∀w,(zeroValue 3).run P w= .ok (iV 0) w
def ef(x y:Int):Value:=.agg #[iV x,iV y]
def j9(es:List MapEntry)(l:List (Int×Int×Int)):Prop:=es.map (λe=>(e.key,e.val))=l.map λt=>(ef t.1 t.2.1,iV t.2.2)
def dK(x y:Int):List (Int×Int×Int) ->Nat ->Option (Nat×Int)
 |[],_=>none
 |t::r,i=>if x=t.1/\y=t.2.1 then some (i,t.2.2)else dK x y r (i+1)
def QG(g:Lv.G)(o:Obj):Prop:=∃es clock l,o= .map es clock/\j9 es.toList l/\∀x y,g x y=(dK x y l 0).map (·.2)
theorem wo(x y:Int):∀(l:List (Int×Int×Int)) (i:Nat) (p:Nat×Int),dK x y l i=some p ->i<=p.1/\∃t,l[p.1-i]?=some t/\t.1=x/\t.2.1=y/\t.2.2=p.2
 |t::r,i,p,h=>by
  simp only[dK]at h;split at h
  ·rename_i hc
   obtain rfl:=JB h;exact⟨KJ _,t,Od,hc.1.symm,hc.2.symm,rfl⟩
  ·obtain⟨e,a,b,d⟩:=wo x y r (i+1) p h
   refine⟨Oo,a,?_,d⟩;rw[show p.1-i=(p.1-(i+1))+1 by omega]
   simpa using b
theorem Bm(x y v:Int):∀(l:List (Int×Int×Int)) (i:Nat) (p:Nat×Int),dK x y l i=some p ->∀a c,(dK a c (l.set (p.1-i) (x,y,v)) i).map (·.2)=if a=x/\c=y then some v else (dK a c l i).map (·.2)
 |t::r,i,p,h,a,c=>by
  simp only[dK]at h;split at h
  ·rename_i hc
   obtain rfl:=JB h;rw[Nat.sub_self,List.set_cons_zero];simp only[dK]
   by_cases e:a=x/\c=y
   ·rw[if_pos e,if_pos e];rfl
   ·rw[if_neg e,if_neg e,if_neg (by rw[<- hc.1,<- hc.2];exact e)]
  ·rename_i hc
   obtain⟨b,_⟩:=wo x y r (i+1) p h;rw[show p.1-i=(p.1-(i+1))+1 by omega,List.set_cons_succ];simp only[dK]
   by_cases e:a=t.1/\c=t.2.1
   ·rw[if_pos e,if_pos e,if_neg (by rintro⟨rfl,rfl⟩;exact hc e)]
   ·rw[if_neg e,if_neg e]
    exact Bm x y v r (i+1) p h a c
theorem Bo(x y v:Int):∀(l:List (Int×Int×Int)) (i:Nat),dK x y l i=none ->∀a c,(dK a c (l++[(x,y,v)]) i).map (·.2)=if a=x/\c=y then some v else (dK a c l i).map (·.2)
 |[],i,_,a,c=>by
  simp only[List.nil_append,dK];split<;>rfl
 |t::r,i,h,a,c=>by
  simp only[dK]at h;split at h
  ·cases h
  ·rename_i hc
   simp only[List.cons_append,dK]
   by_cases e:a=t.1/\c=t.2.1
   ·rw[if_pos e,if_pos e,if_neg (by rintro⟨rfl,rfl⟩;exact hc e)]
   ·rw[if_neg e,if_neg e]
    exact Bo x y v r (i+1) h a c
section
variable{P:Program}{K T:TypeId}(hM:M2 P K T)
include hM
theorem Bp(x y:Int)(w:World):∀(es:List MapEntry) (l:List (Int×Int×Int)) (i:Nat),j9 es l ->
  (Instr.findAsking K (ef x y) es i).run P w= .ok ((dK x y l i).map λp=>(p.1,iV p.2)) w
 |[],[],i,_=>by simp[Instr.findAsking,dK]
 |e::es,t::l,i,h=>by
  simp only[j9,List.map_cons,List.cons.injEq,Prod.mk.injEq]at h;obtain⟨⟨h1,h2⟩,h3⟩:=h;have a:=Bp x y w es l (i+1) h3;simp only[Instr.findAsking,Sem.run_bind,h1,ef,hM.eq,Result.andThen_ok,dK];simp only[ef]at a
  by_cases b:x=t.1/\y=t.2.1
  ·simp[b,h2]
  ·simp[b,a]
 |[],_::_,_,h=>by simp[j9]at h
 |_::_,[],_,h=>by simp[j9]at h
theorem Bq(x y:Int)(w:World)(es:List MapEntry)(l:List (Int×Int×Int))(h:j9 es l):
  (Instr.findKey K (ef x y) es).run P w= .ok ((dK x y l 0).map λp=>(p.1,iV p.2)) w:=by
 obtain⟨b,a⟩:=hM.k;simp only[Instr.findKey,Sem.run_bind,run_underlying a,Result.andThen_ok]
 match es,l,h with
 |[],[],_=>simp[Instr.findNow,dK]
 |e::es,t::l,h=>
  simp only[Instr.findNow,Instr.sameNow,ef];exact Bp hM x y w _ _ 0 h
 |[],_::_,h=>simp[j9]at h
 |_::_,[],h=>simp[j9]at h
theorem Bs{w:World}{b:Nat}{g:Lv.G}{o:Obj}(m:w.heap[b]?=some o)(q:QG g o)(x y:Int)(ok:Bool):
  (Instr.lookup T (.map (some b)) (ef x y) ok).run P w= .ok (if ok then .tuple #[iV ((g x y).getD 0),.bool (g x y).isSome]else iV ((g x y).getD 0)) w:=by
 obtain⟨j,d,l,rfl,r,s⟩:=q;have f:(getObj b).run P w= .ok (.map j d) w:=by simp[getObj,Sem.run,m]
 have a:=Bq hM x y w j.toList l r;have i:∀e w,(Instr.checkKey e 10000 K (ef x y)).run P w= .ok () w:=λ_ _=>hM.ck _ _ _ _;simp only[Instr.lookup,Sem.run_bind,run_underlying hM.t,Result.andThen_ok,f,i,s];cases k:dK x y l 0 with
 |none=>rw[k]at a;simp[a,hM.z]
 |some p=>rw[k]at a;simp[a]
theorem wq{w:World}{b:Nat}{g:Lv.G}{o:Obj}(F:w.heap[b]?=some o)(N:QG g o)(x y v:Int):
  ∃H,QG (Lv.putG g x y v) H/\(Instr.mapUpdate T (.map (some b)) (ef x y) (iV v)).run P w= .ok () {w with heap:=w.heap.setIfInBounds b H}:=by
 obtain⟨j,d,l,rfl,r,I⟩:=N;have k:(getObj b).run P w= .ok (.map j d) w:=by simp[getObj,Sem.run,F]
 have f:=Bq hM x y w j.toList l r;have m:∀o,(setObj b o).run P w= .ok () {w with heap:=w.heap.setIfInBounds b o}:=λo=>by simp[setObj,Sem.run,F]
 have s:∀e w,(Instr.checkKey e 10000 K (ef x y)).run P w= .ok () w:=λ_ _=>hM.ck _ _ _ _;have L:j.size=l.length:=by
  have:=congrArg List.length r
  simpa using this
 cases u:dK x y l 0 with
 |none=>
  rw[u]at f;refine⟨.map (j.push {key:=ef x y,val:=iV v,born:=d}) (d+1),⟨_,_,l++[(x,y,v)],rfl,?_,λa c=>?_⟩,by simp[Instr.mapUpdate,run_underlying hM.t,k,s,f,m]⟩
  ·simp only[j9,Array.toList_push,List.map_append,r,List.map_cons,List.map_nil]
   rw[r]
  ·rw[Bo x y v l 0 u a c,<- I]
   rfl
 |some p=>
  rw[u]at f;obtain⟨_,t,D,O,Q,V⟩:=wo x y l 0 p u;rw[Nat.sub_zero]at D;have R:p.1<l.length:=(List.getElem?_eq_some_iff.1 D).1;have z:((j[p.1]?).map (·.key)).getD (ef x y)=ef x y:=by
   have:=congrArg (λl=>l[p.1]?) r;simp only[JX,D,Option.map_some,Array.getElem?_toList]at this;cases q:j[p.1]? with
   |none=>simp
   |some e=>
    rw[q]at this;simp only[Option.map_some,Option.some.injEq,Prod.mk.injEq]at this;simp[this.1,O,Q]
  have E:(Instr.keyThatStays (ef x y) (ef x y)).run P w= .ok (ef x y) w:=by
   unfold Instr.keyThatStays;rw[show (10000:Nat)=9999+1 from rfl,show Instr.sameBits (9999+1) (ef x y) (ef x y)=true by simp[Instr.sameBits,ef]];simp
  refine⟨.map (j.modify p.1 λe=>{e with key:=ef x y,val:=iV v}) d,⟨_,_,l.set p.1 (x,y,v),rfl,?_,λa c=>?_⟩,?_⟩
  ·unfold j9
   apply List.ext_getElem?;intro i;have:=congrArg (λl=>l[i]?) r;simp only[JX,Array.getElem?_toList]at this ⊢;simp only[Array.getElem?_modify,List.getElem?_set]
   by_cases M:p.1=i
   ·subst M
    have q:p.1<j.size:=Oo
    simp[R,q]
   ·simp[M,this]
  ·have:=Bm x y v l 0 p u a c
   rw[Nat.sub_zero]at this;rw[this,<- I]
   rfl
  ·simp only[Instr.mapUpdate,Sem.run_bind,run_underlying hM.t,Result.andThen_ok,k,s]
   rw[f];simp only[Option.map_some,Result.andThen_ok,Sem.run_bind];rw[z,E];simp[m]
def sG(x y:Int):AV:=.agg [.p (pI x),.p (pI y)]
omit hM in
theorem ws{C:Mem}{ρ:Nat ->Value}{x y:Int}{v:Value}(h:RA C ρ (sG x y) v):v=ef x y:=by
 obtain⟨d,rfl,e,h⟩:=h
 match d,e with
 |[a,b],_=>
  have f:RV C (pI x) a:=h 0 _ a rfl rfl;have g:RV C (pI y) b:=h 1 _ b rfl rfl;cases f;cases g
  rfl
theorem sH{g:Lv.G}{x y:Int}{k:PV ->Prop}(e:k (.tup [pI ((g x y).getD 0),.bool (g x y).isSome])):vD P T (QG g) (sG x y) true k:=⟨_,λC ρ m b w o f j l=>by
 rw[ws f];refine⟨_,.tup _ [_,_] rfl λi p q a d=>?_,Bs hM j l x y true⟩
 match i,a,d with
 |0,a,d=>obtain rfl:=JB a;obtain rfl:=JB d;exact .int _ _
 |1,a,d=>obtain rfl:=JB a;obtain rfl:=JB d;exact .bool _,e⟩
theorem ww{g:Lv.G}{x y:Int}{k:PV ->Prop}(a:k (pI ((g x y).getD 0))):vD P T (QG g) (sG x y) false k:=⟨_,λC ρ i b w o d e f=>by
 rw[ws d];exact⟨_,.int _ _,Bs hM e f x y false⟩,a⟩
theorem oz{g:Lv.G}{x y v:Int}{k:(Obj ->Prop) ->Prop}(d:k (QG (Lv.putG g x y v))):AD P T (QG g) (sG x y) (vI v) k:=⟨_,λC ρ l e b w o f a i j=>by
 rw[ws f];have a:RV C (pI v) e:=a;cases a;exact wq hM i j x y v,d⟩
omit hM in
theorem qg0:QG (λ_ _=>none) (.map #[] 0):=⟨#[],0,[],rfl,rfl,λ_ _=>rfl⟩
end
end Go.Wx
namespace Go.Proofs.YtjnjbghlemiklaaGreat
open Go.Wx
def τ:Tau where
 tab:=[(7,[(0,1,false),(1,1,false),(2,1,false),(3,1,false)],[0,0,1,7]),(8,[(0,1,false),(1,1,false),(2,1,false),(3,1,false)],[0,0,1,7]),(13,[(0,1,false),(1,1,false)],[9,11]),(14,[(0,1,false),(1,1,false)],[9,11]),(18,[(0,1,false)],[3]),(19,[(0,1,false)],[3]),(25,[(0,1,false),(1,1,false),(2,1,false),(3,1,false),(4,1,false)],[0,2,2,0,2]),(26,[(0,1,false),(1,1,false),(2,1,false),(3,1,false),(4,1,false)],[0,2,2,0,2]),(30,[(0,5,true),(5,1,false),(6,1,false),(7,1,false),(8,1,false)],[0,2,2,0,2,2,2,2,0]),(31,[(0,5,true),(5,1,false),(6,1,false),(7,1,false),(8,1,false)],[0,2,2,0,2,2,2,2,0]),(41,[(0,1,false),(1,1,false),(2,1,false)],[0,0,0]),(42,[(0,1,false),(1,1,false),(2,1,false)],[0,0,0]),(47,[(0,1,false),(1,1,false)],[0,0]),(48,[(0,1,false),(1,1,false)],[0,0]),(66,[(0,1,false),(1,1,false),(2,1,false),(3,1,false),(4,1,false),(5,1,false),(6,1,false)],[0,2,2,2,2,2,2]),(67,[(0,1,false),(1,1,false),(2,1,false),(3,1,false),(4,1,false),(5,1,false),(6,1,false)],[0,2,2,2,2,2,2]),(69,[(0,1,false),(1,1,false)],[2,2]),(70,[(0,1,false),(1,1,false)],[2,2]),(71,[(0,1,false),(1,1,false)],[2,2]),(72,[(0,1,false),(1,1,false)],[2,2]),(73,[(0,1,false),(1,1,false),(2,1,false)],[0,0,0]),(74,[(0,1,false),(1,1,false),(2,1,false)],[0,0,0]),(76,[(0,1,false),(1,1,false)],[0,0]),(77,[(0,1,false),(1,1,false)],[0,0]),(92,[(0,5,true),(5,1,false),(6,1,false)],[0,2,2,0,2,0,0]),(93,[(0,5,true),(5,1,false),(6,1,false)],[0,2,2,0,2,0,0]),(110,[(0,3,true),(3,1,false),(4,1,false),(5,1,false)],[0,0,0,2,2,2]),(111,[(0,3,true),(3,1,false),(4,1,false),(5,1,false)],[0,0,0,2,2,2]),(122,[(0,5,true),(5,1,false),(6,1,false)],[0,2,2,0,2,0,0]),(123,[(0,5,true),(5,1,false),(6,1,false)],[0,2,2,0,2,0,0]),(128,[(0,1,false)],[0]),(129,[(0,1,false)],[0]),(131,[(0,5,true),(5,1,false)],[0,2,2,0,2,0]),(132,[(0,5,true),(5,1,false)],[0,2,2,0,2,0]),(203,[(0,1,false),(1,1,false)],[0,0]),(204,[(0,1,false),(1,1,false)],[0,0]),(208,[(0,1,false)],[0]),(209,[(0,1,false)],[0]),(218,[(0,1,false),(1,1,false)],[2,2]),(219,[(0,1,false),(1,1,false)],[2,2]),(227,[(0,5,true),(5,1,false)],[0,2,2,0,2,2]),(228,[(0,5,true),(5,1,false)],[0,2,2,0,2,2]),(240,[(0,5,true),(5,1,false),(6,1,false),(7,1,false)],[0,2,2,0,2,2,0,0]),(241,[(0,5,true),(5,1,false),(6,1,false),(7,1,false)],[0,2,2,0,2,2,0,0]),(249,[(0,5,true),(5,1,false),(6,1,false)],[0,2,2,0,2,2,0]),(250,[(0,5,true),(5,1,false),(6,1,false)],[0,2,2,0,2,2,0]),(294,[(0,1,false),(1,1,false),(2,1,false),(3,1,false)],[3,3,3,9]),(295,[(0,1,false),(1,1,false),(2,1,false),(3,1,false)],[3,3,3,9]),(305,[(0,1,false),(1,1,false),(2,1,false),(3,1,false),(4,1,false),(5,1,false),(6,1,false),(7,1,false),(8,1,false),(9,1,false),(10,1,false)],[11,11,6,7,7,7,7,5,3,12,12]),(306,[(0,1,false),(1,1,false),(2,1,false),(3,1,false),(4,1,false),(5,1,false),(6,1,false),(7,1,false),(8,1,false),(9,1,false),(10,1,false)],[11,11,6,7,7,7,7,5,3,12,12])]
 ones:=[(2,0),(3,0),(4,1),(5,7),(6,7),(9,9),(10,9),(11,9),(12,11),(15,3),(16,3),(17,3),(20,8),(21,12),(22,2),(23,2),(24,2),(27,2),(28,2),(29,2),(34,0),(43,2),(44,2),(60,3),(64,2),(65,2),(87,3),(109,2),(133,2),(156,2),(157,2),(163,4),(164,4),(171,4),(182,4),(206,2),(213,2),(217,3),(229,2),(230,0),(239,3),(248,11),(261,0),(268,6),(270,11),(278,11),(282,3),(284,2),(288,3),(299,7),(300,7),(302,3),(303,12),(304,12),(307,3),(1,5),(32,5),(33,5),(36,5),(37,5),(38,5),(39,5),(40,5),(46,5),(49,5),(50,5),(52,5),(53,5),(55,5),(56,5),(57,5),(58,5),(59,5),(61,5),(62,5),(63,5),(68,5),(75,5),(78,5),(80,5),(81,5),(82,5),(83,5),(84,5),(85,5),(86,5),(88,5),(89,5),(90,5),(91,5),(94,5),(95,5),(97,5),(99,5),(100,5),(101,5),(102,5),(103,5),(104,5),(105,5),(106,5),(107,5),(108,5),(113,5),(114,5),(115,5),(116,5),(117,5),(118,5),(119,5),(120,5),(121,5),(124,5),(125,5),(126,5),(127,5),(134,5),(136,5),(137,5),(138,5),(139,5),(140,5),(141,5),(142,5),(143,5),(144,5),(145,5),(146,5),(148,5),(149,5),(150,5),(151,5),(152,5),(153,5),(155,5),(158,5),(159,5),(160,5),(161,5),(162,5),(166,5),(167,5),(168,5),(169,5),(170,5),(173,5),(174,5),(175,5),(176,5),(177,5),(178,5),(180,5),(181,5),(183,5),(185,5),(186,5),(187,5),(188,5),(189,5),(190,5),(191,5),(192,5),(193,5),(194,5),(195,5),(197,5),(198,5),(199,5),(200,5),(201,5),(202,5),(205,5),(207,5),(210,5),(211,5),(212,5),(214,5),(215,5),(216,5),(220,5),(221,5),(222,5),(223,5),(224,5),(226,5),(231,5),(233,5),(235,5),(236,5),(237,5),(238,5),(242,5),(243,5),(244,5),(245,5),(246,5),(247,5),(252,5),(253,5),(254,5),(255,5),(256,5),(257,5),(258,5),(259,5),(260,5),(263,5),(264,5),(265,5),(266,5),(267,5),(269,5),(271,5),(272,5),(273,5),(274,5),(275,5),(276,5),(277,5),(279,5),(280,5),(281,5),(283,5),(285,5),(286,5),(287,5),(289,5),(290,5),(291,5),(292,5),(293,5),(301,5)]
 slcs:=[(22,74,3,24),(23,67,7,152),(24,77,2,16),(27,72,2,48),(28,42,3,24),(29,42,3,24),(43,48,2,16),(44,48,2,16),(64,29,1,24),(65,70,2,48),(109,111,6,96),(133,72,2,48),(156,3,1,8),(157,3,1,8),(206,168,1,8),(213,44,1,24),(229,230,1,8),(284,64,1,24)]
theorem τok:aL prog τ:=Fo OD
open Go.Wx Lv
theorem Bt(e:Bool)(d:Nat)(n:Int)(w:World):(Instr.checkKey e (d+1) 3 (iV n)).run prog w= .ok () w:=by
 simp only[Instr.checkKey,Sem.run_bind,run_underlying underlying3,Result.andThen_ok]
 rfl
theorem m2e:M2 prog 204 164:=by
 refine⟨λa b c d w=>?_,λe a b w=>?_,⟨_,underlying204⟩,underlying164,λw=>OD⟩
 ·have f:prog.underlying 204=some (.struct (prog.fieldsOf 204)):=by rw[Program.fieldsOf,underlying204]
  have h:=run_equalIn_struct (P:=prog) w 9999 204 #[iV a,iV b] #[iV c,iV d] f OD;show (Op.equalIn 10000 204 _ _).run prog w=_;rw[h];simp[Program.fieldsOf,underlying204,Op.eqFields,part,go_sem,underlying3]
  by_cases g:a=c<;>by_cases i:b=d<;>simp[g,i,go_sem]
 ·show (Instr.checkKey e (9998+1+1) 204 _).run prog w=_
  rw[Instr.checkKey];simp only[Sem.run_bind,run_underlying underlying204,Result.andThen_ok];rw[<- Array.forIn_toList];simp[part,go_sem,Bt]
theorem m2p:M2 prog 77 171:=by
 refine⟨λa b c d w=>?_,λe a b w=>?_,⟨_,underlying77⟩,underlying171,λw=>OD⟩
 ·have f:prog.underlying 77=some (.struct (prog.fieldsOf 77)):=by rw[Program.fieldsOf,underlying77]
  have h:=run_equalIn_struct (P:=prog) w 9999 77 #[iV a,iV b] #[iV c,iV d] f OD;show (Op.equalIn 10000 77 _ _).run prog w=_;rw[h];simp[Program.fieldsOf,underlying77,Op.eqFields,part,go_sem,underlying3]
  by_cases g:a=c<;>by_cases i:b=d<;>simp[g,i,go_sem]
 ·show (Instr.checkKey e (9998+1+1) 77 _).run prog w=_
  rw[Instr.checkKey];simp only[Sem.run_bind,run_underlying underlying77,Result.andThen_ok];rw[<- Array.forIn_toList];simp[part,go_sem,Bt]
end Go.Proofs.YtjnjbghlemiklaaGreat
namespace Cd
open Go Go.Wx
structure Nd where
 op:Int
 a:Int
 b:Int
def rNd:Rd Nd where
 sz:=3
 den C cs x:=cs=[iV x.op,iV x.a,iV x.b]/\I64 x.op/\I64 x.a/\I64 x.b
 len:=by rintro C cs x ⟨rfl,_⟩;rfl
 mono:=by rintro C C' cs x hc h;exact h
 one:=by rintro C cs x ⟨rfl,_⟩ u hu;simp at hu;rcases hu with rfl|rfl|rfl<;>rfl
def gz{α:Type}(R:Rd α):Rd (List α) where
 sz:=1
 den C cs l:=∃a cap,cs=[.slice a l.length cap]/\l.length<=cap/\Sl R C a l
 len:=by rintro C cs x ⟨a,cap,rfl,_⟩;rfl
 mono:=by rintro C C' cs x hc ⟨a,cap,rfl,h',h⟩;exact⟨a,cap,rfl,h',h.mono hc⟩
 one:=by rintro C cs x ⟨a,cap,rfl,_⟩ u hu;simp at hu;subst hu;rfl
inductive Tr where
 |mk (n:Nd) (ks:List Tr)
def Tr.n:Tr ->Nd
 | .mk n _=>n
def Tr.ks:Tr ->List Tr
 | .mk _ ks=>ks
mutual
def row:Tr ->List Nd
 | .mk n ks=>n::rows ks
def rows:List Tr ->List Nd
 |[]=>[]
 |x::r=>row x++rows r
end
theorem aS(x:Tr):0<(row x).length:=by
 cases x;simp[row]
theorem dc':∀(l m:List Tr),rows (l++m)=rows l++rows m
 |[],m=>rfl
 |x::r,m=>by simp[rows,dc' r m]
section
variable{σ:Type}(cnt:σ ->Nd ->Option Nat)(nx:σ ->Nd ->Nat ->σ)
def kidsL(p:σ ->List Nd ->Option (Tr×List Nd))(g:Nat ->σ):Nat ->Nat ->List Nd ->Option (List Tr×List Nd)
 |_,0,r=>some ([],r)
 |k,c+1,r=>match p (g k) r with
  |none=>none
  |some (x,r')=>match kidsL p g (k+1) c r' with
   |none=>none
   |some (xs,r'')=>some (x::xs,r'')
def parse:Nat ->σ ->List Nd ->Option (Tr×List Nd)
 |0,_,_=>none
 |_+1,_,[]=>none
 |f+1,s,n::r=>match cnt s n with
  |none=>none
  |some c=>match kidsL (parse f) (nx s n) 0 c r with
   |none=>none
   |some (ks,r')=>some (.mk n ks,r')
mutual
def okT:Tr ->σ ->Prop
 | .mk n ks,s=>cnt s n=some ks.length/\okL ks n s 0
def okL:List Tr ->Nd ->σ ->Nat ->Prop
 |[],_,_,_=>True
 |x::r,n,s,k=>okT x (nx s n k)/\okL r n s (k+1)
end
variable{cnt nx}
theorem Bu{p:σ ->List Nd ->Option (Tr×List Nd)}{n:Nd}{s:σ}(d:∀s t x r,p s t=some (x,r) ->t=row x++r/\okT cnt nx x s):∀(c k:Nat) (t:List Nd) (ks:List Tr) (r:List Nd),kidsL p (nx s n) k c t=some (ks,r) ->t=rows ks++r/\ks.length=c/\okL cnt nx ks n s k
 |0,k,t,ks,r,h=>by
  simp only[kidsL,Option.some.injEq,Prod.mk.injEq]at h;obtain⟨rfl,rfl⟩:=h;exact⟨rfl,rfl,trivial⟩
 |c+1,k,t,ks,r,h=>by
  simp only[kidsL]at h;split at h
  ·cases h
  rename_i x e f;split at h
  ·cases h
  rename_i g a b;simp only[Option.some.injEq,Prod.mk.injEq]at h;obtain⟨rfl,rfl⟩:=h;obtain⟨i,j⟩:=d _ _ _ _ f;obtain⟨l,m,o⟩:=Bu d c (k+1) e g a b;exact⟨by rw[i,l];simp[rows],by simp[m],j,o⟩
theorem cX':∀(f:Nat) (s:σ) (t:List Nd) (x:Tr) (r:List Nd),parse cnt nx f s t=some (x,r) ->t=row x++r/\okT cnt nx x s
 |0,s,t,x,r,h=>by simp[parse]at h
 |f+1,s,[],x,r,h=>by simp[parse]at h
 |f+1,s,n::t,x,r,h=>by
  simp only[parse]at h;split at h
  ·cases h
  rename_i c hc;split at h
  ·cases h
  rename_i ks a b;simp only[Option.some.injEq,Prod.mk.injEq]at h;obtain⟨rfl,rfl⟩:=h;obtain⟨d,e,g⟩:=Bu (cX' f) c 0 t ks a b;exact⟨by rw[d];simp[row],by rw[hc,e],g⟩
mutual
theorem fA':∀(x:Tr) (f:Nat) (s:σ) (r:List Nd),(row x).length<=f ->okT cnt nx x s ->parse cnt nx f s (row x++r)=some (x,r)
 | .mk n ks,0,s,r,a,_=>by simp[row]at a
 | .mk n ks,f+1,s,r,a,h=>by
  obtain⟨h1,h2⟩:=h;have:=pP' ks f n s 0 r (by simpa[row]using a) h2;simp only[row,List.cons_append,parse,h1,this]
theorem pP':∀(ks:List Tr) (f:Nat) (n:Nd) (s:σ) (k:Nat) (r:List Nd),(rows ks).length<=f ->okL cnt nx ks n s k ->kidsL (parse cnt nx f) (nx s n) k ks.length (rows ks++r)=some (ks,r)
 |[],f,n,s,k,r,_,_=>rfl
 |x::l,f,n,s,k,r,a,h=>by
  obtain⟨h1,h2⟩:=h;simp only[rows,JK]at a;have b:=fA' x f (nx s n k) (rows l++r) Oo h1;have d:=pP' l f n s (k+1) r Oo h2;simp only[rows,List.append_assoc,JV,kidsL,b,d]
end
theorem sI{f:Nat}{s:σ}{t:List Nd}{x:Tr}{r:List Nd}(h:parse cnt nx f s t=some (x,r)):t.length=(row x).length+r.length:=by
 rw[(cX' f s t x r h).1,JK]
theorem Bv{f g:Nat}{s:σ}{t:List Nd}(d:t.length<=f)(e:t.length<=g):parse cnt nx f s t=parse cnt nx g s t:=by
 cases h:parse cnt nx f s t with
 |some p=>
  obtain⟨x,r⟩:=p;obtain⟨a,b⟩:=cX' _ _ _ _ _ h;subst a;exact(fA' x g s r (by simp at e;omega) b).symm
 |none=>
  cases i:parse cnt nx g s t with
  |none=>rfl
  |some p=>
   obtain⟨x,r⟩:=p;obtain⟨a,b⟩:=cX' _ _ _ _ _ i;subst a;rw[fA' x f s r (by simp at d;omega) b]at h;cases h
theorem Hf{f:Nat}{s:σ}{t:List Nd}{a:Nat}(ha:a<=t.length){x:Tr}{r:List Nd}(h:parse cnt nx f s (t.drop a)=some (x,r)):r=t.drop (t.length-r.length)/\a<t.length-r.length/\r.length<=t.length/\(row x).length=t.length-r.length-a:=by
 obtain⟨b,_⟩:=cX' _ _ _ _ _ h;have d:=sI h;have g:=aS x;rw[List.length_drop]at d;refine⟨?_,Oo,Oo,Oo⟩;have e:t.length-r.length=a+(row x).length:=Oo
 rw[e,<- List.drop_drop,b,List.drop_left]
def oB(s:σ)(t:List Nd):Option Tr:=match parse cnt nx t.length s t with
 |some (x,[])=>some x
 |_=>none
theorem Hg{s:σ}{t:List Nd}{x:Tr}(h:oB (cnt:=cnt) (nx:=nx) s t=some x):t=row x/\okT cnt nx x s:=by
 unfold oB at h;split at h
 ·rename_i y a
  obtain rfl:=JB h;obtain⟨b,d⟩:=cX' _ _ _ _ _ a;exact⟨by rw[b];simp,d⟩
 ·cases h
theorem Hh{s:σ}{x:Tr}(h:okT cnt nx x s):oB (cnt:=cnt) (nx:=nx) s (row x)=some x:=by
 unfold oB;have:=fA' x (row x).length s [] (KJ _) h;rw[JD]at this;rw[this]
end
mutual
def sH':Tr ->Nat
 | .mk _ ks=>1+kB' ks
def kB':List Tr ->Nat
 |[]=>0
 |x::r=>sH' x+kB' r
end
mutual
theorem zi':∀x:Tr,(row x).length=sH' x
 | .mk n ks=>by rw[row,sH',JV,rows_len ks];omega
theorem rows_len:∀l:List Tr,(rows l).length=kB' l
 |[]=>rfl
 |x::r=>by rw[rows,kB',JK,zi' x,rows_len r]
end
theorem Hi(x:Tr):0<sH' x:=by
 cases x;simp only[sH'];omega
theorem kC':∀l:List Tr,l.length<=kB' l
 |[]=>KJ _
 |x::r=>by
  have:=kC' r;have:=Hi x;simp only[kB',JV];omega
end Cd
namespace Tm
open Go Go.Wx Cd
inductive Md where
 |tm|fn|am
def aE(x lo hi:Int):Bool:=decide (lo<=x) && decide (x<=hi)
theorem dq{x lo hi:Int}:aE x lo hi=true↔lo<=x/\x<=hi:=by simp[aE]
def aw(n:Nd):Bool:=
 if n.op=1 then aE n.a 0 1048576 && decide (n.b=0)
 else if n.op=2 then (decide (n.a=0)||decide (n.a=1)) && aE n.b 1 4
 else if n.op=3 then aE n.a 0 16 && aE n.b 0 1000
 else if n.op=4 \/n.op=5 \/n.op=6 \/n.op=7 then decide (n.a=0) && decide (n.b=0)
 else if n.op=8 \/n.op=9 then aE n.a 0 63 && decide (n.b=0)
 else if n.op=10 then aE n.a 0 63 && aE n.b 0 15
 else if n.op=11 then aE n.a 0 63 && aE n.b 0 16
 else if n.op=12 then aE n.b 1 4 && aE n.a 0 (n.b-1)
 else if n.op=13 then aE n.a 0 15 && decide (n.b=0)
 else false
def bp(n:Nd):Int:=if n.op=4 \/n.op=5 \/n.op=6 \/n.op=13 then 2 else if n.op=7 then 3 else if n.op=11 then 2+n.b else if n.op=12 then n.b else 0
def cnt:Md ->Nd ->Option Nat
 | .tm,n=>if aw n=true/\n.op≠3/\n.op≠13 then some (if n.op=2 then n.b.toNat else (bp n).toNat)else none
 | .fn,n=>if n.op=13/\aw n=true then some 2 else none
 | .am,n=>if n.op=3/\aw n=true then some 0 else none
def nx:Md ->Nd ->Nat ->Md
 | .tm,n,_=>if n.op=2 then .am else if n.op=12 then .fn else .tm
 | .fn,_,_=>.tm
 | .am,_,_=>.am
def qX':Int ->List Tr ->Bool
 |_,[]=>true
 |last,x::r=>decide (last<x.n.a) && qX' x.n.a r
mutual
def gE':Tr ->Bool
 | .mk n ks=>(if n.op=2 then qX' (-1) ks else true) && eN' ks
def eN':List Tr ->Bool
 |[]=>true
 |x::r=>gE' x && eN' r
end
def endS(t:List Nd)(s:Md)(a:Nat):Option Nat:=match parse cnt nx t.length s (t.drop a)with
 |some (x,r)=>if gE' x=true then some (t.length-r.length)else none
 |none=>none
def fZ(t:List Nd)(s:Md):Nat ->Nat ->Option Nat
 |0,a=>some a
 |c+1,a=>match endS t s a with
  |none=>none
  |some a'=>fZ t s c a'
def gb(t:List Nd):Nat ->Int ->Nat ->Option Nat
 |0,_,a=>some a
 |c+1,last,a=>match t[a]? with
  |some m=>if m.op=3/\aw m=true/\last<m.a then gb t c m.a (a+1)else none
  |none=>none
theorem Bw{f g:Nat}(s:Nat ->Md):∀(c k:Nat) (r:List Nd),r.length<=f ->r.length<=g ->kidsL (parse cnt nx f) s k c r=kidsL (parse cnt nx g) s k c r
 |0,k,r,_,_=>rfl
 |c+1,k,r,a,b=>by
  simp only[kidsL];rw[Bv (cnt:=cnt) (nx:=nx) (s:=s k) a b];cases h:parse cnt nx g (s k) r with
  |none=>rfl
  |some q=>
   obtain⟨x,d⟩:=q;have:=sI h;simp only;rw[Bw (f:=f) (g:=g) s c (k+1) d Oo Oo]
theorem Bx(t:List Nd)(s:Md):∀(c k a:Nat),a<=t.length ->fZ t s c a=match kidsL (parse cnt nx t.length) (λ_=>s) k c (t.drop a)with
  |some (ks,r)=>if eN' ks=true then some (t.length-r.length)else none
  |none=>none
 |0,k,a,ha=>by simp[fZ,kidsL,eN'];omega
 |c+1,k,a,ha=>by
  simp only[fZ,kidsL,endS];cases h:parse cnt nx t.length s (t.drop a)with
  |none=>rfl
  |some q=>
   obtain⟨x,r⟩:=q;obtain⟨d,e,f,_⟩:=Hf ha h;simp only
   by_cases b:gE' x=true
   ·rw[if_pos b]
    simp only;rw[Bx t s c (k+1) (t.length-r.length) Oo,<- d];cases kidsL (parse cnt nx t.length) (λ_=>s) (k+1) c r with
    |none=>rfl
    |some q=>simp[eN',b]
   ·rw[if_neg b]
    simp only;cases kidsL (parse cnt nx t.length) (λ_=>s) (k+1) c r with
    |none=>rfl
    |some q=>simp[eN',b]
theorem By(t:List Nd)(s:Md){a:Nat}{n:Nd}(b:t[a]?=some n){c:Nat}(hc:cnt s n=some c):
  endS t s a=match kidsL (parse cnt nx t.length) (nx s n) 0 c (t.drop (a+1))with
  |some (ks,r)=>if gE' (.mk n ks)=true then some (t.length-r.length)else none
  |none=>none:=by
 have i:=aI b;obtain⟨x,d,j⟩:=ay i;rw[b]at d;obtain rfl:=JB d;have k:(t.drop (a+1)).length<=t.length:=Od
 unfold endS;rw[j];have e:t.length=(t.length-1)+1:=Oo
 rw[show parse cnt nx t.length s (n::t.drop (a+1))=parse cnt nx ((t.length-1)+1) s (n::t.drop (a+1)) by rw[<- e]];simp only[parse,hc];have l:=Bw (f:=t.length-1) (g:=t.length) (nx s n) c 0 (t.drop (a+1)) OK k;rw[l];cases kidsL (parse cnt nx t.length) (nx s n) 0 c (t.drop (a+1))with
 |none=>rfl
 |some q=>rfl
theorem sJ(t:List Nd)(s:Md){a:Nat}(h:∀n,t[a]?=some n ->cnt s n=none):endS t s a=none:=by
 by_cases b:a<t.length
 ·obtain⟨n,d,f⟩:=ay b
  unfold endS;rw[f];have e:t.length=(t.length-1)+1:=Oo
  rw[show parse cnt nx t.length s (n::t.drop (a+1))=parse cnt nx ((t.length-1)+1) s (n::t.drop (a+1)) by rw[<- e]];simp only[parse,h n d]
 ·unfold endS
  rw[JY Oo];cases t.length<;>simp[parse]
theorem qs(t:List Nd)(s:Md){a:Nat}{n:Nd}(d:t[a]?=some n){c:Nat}(hc:cnt s n=some c)(h2:s= .tm ->n.op≠2){s':Md}(e:∀k,nx s n k=s')(b:n.op≠2):endS t s a=fZ t s' c (a+1):=by
 have f:=aI d;rw[By t s d hc,Bx t s' c 0 (a+1) Oo,show nx s n=λ_=>s' from funext e];cases kidsL (parse cnt nx t.length) (λ_=>s') 0 c (t.drop (a+1))with
 |none=>rfl
 |some q=>simp[gE',b]
theorem Bz(t:List Nd):∀(c k:Nat) (b:Int) (a:Nat),a<=t.length ->gb t c b a=match kidsL (parse cnt nx t.length) (λ_=>Md.am) k c (t.drop a)with
  |some (ks,r)=>if qX' b ks=true/\eN' ks=true then some (t.length-r.length)else none
  |none=>none
 |0,k,b,a,ha=>by simp[gb,kidsL,qX',eN'];omega
 |c+1,k,b,a,ha=>by
  simp only[gb,kidsL]
  by_cases f:a<t.length
  ·obtain⟨n,g,i⟩:=ay f
   have e:t.length=(t.length-1)+1:=Oo
   have j:parse cnt nx t.length .am (t.drop a)=if n.op=3/\aw n=true then some (.mk n [],t.drop (a+1))else none:=by
    skip
    rw[i,show parse cnt nx t.length .am (n::t.drop (a+1))=parse cnt nx ((t.length-1)+1) .am (n::t.drop (a+1)) by rw[<- e]];simp only[parse,cnt]
    by_cases h:n.op=3/\aw n=true
    ·simp only[if_pos h,kidsL]
    ·simp only[if_neg h]
   rw[g];simp only[j]
   by_cases h:n.op=3/\aw n=true
   ·rw[if_pos h]
    simp only;have l:n.op≠2:=by rw[h.1];decide
    by_cases d:b<n.a
    ·rw[if_pos ⟨h.1,h.2,d⟩,Bz t c (k+1) n.a (a+1) Oo]
     cases kidsL (parse cnt nx t.length) (λ_=>Md.am) (k+1) c (t.drop (a+1))with
     |none=>rfl
     |some q=>simp[qX',eN',gE',Tr.n,d,l]
    ·rw[if_neg λq=>d q.2.2]
     cases kidsL (parse cnt nx t.length) (λ_=>Md.am) (k+1) c (t.drop (a+1))with
     |none=>rfl
     |some q=>simp[qX',Tr.n,d]
   ·rw[if_neg h,if_neg λq=>h ⟨q.1,q.2.1⟩]
  ·rw[List.getElem?_eq_none Oo]
   have:parse cnt nx t.length .am (t.drop a)=none:=by
    skip
    rw[JY Oo];cases t.length<;>simp[parse]
   simp only[this]
theorem BA(t:List Nd){a:Nat}{n:Nd}(b:t[a]?=some n)(h2:n.op=2)(d:aw n=true):endS t .tm a=gb t n.b.toNat (-1) (a+1):=by
 have f:=aI b;have e:cnt .tm n=some n.b.toNat:=by simp[cnt,d,h2]
 rw[By t .tm b e,Bz t n.b.toNat 0 (-1) (a+1) Oo,show nx .tm n=λ_=>Md.am from funext λk=>by simp[nx,h2]];cases kidsL (parse cnt nx t.length) (λ_=>Md.am) 0 n.b.toNat (t.drop (a+1))with
 |none=>rfl
 |some q=>simp[gE',h2]
theorem BB{t:List Nd}{s:Md}{a e:Nat}(h:endS t s a=some e):a<e/\e<=t.length:=by
 unfold endS at h;split at h
 ·rename_i x r b
  split at h
  ·obtain rfl:=JB h
   have d:=sI b;have f:=aS x;rw[List.length_drop]at d;omega
  ·cases h
 ·cases h
def Ok(s:Md)(x:Tr):Prop:=okT cnt nx x s/\gE' x=true
def ml(t:List Nd):Option Tr:=match oB (cnt:=cnt) (nx:=nx) Md.tm t with
 |some x=>if gE' x=true then some x else none
 |none=>none
theorem BC{t:List Nd}{x:Tr}(h:ml t=some x):t=row x/\Ok .tm x:=by
 unfold ml at h;split at h
 ·rename_i y a
  split at h
  ·rename_i b
   obtain rfl:=JB h;obtain⟨d,e⟩:=Hg a;exact⟨d,e,b⟩
  ·cases h
 ·cases h
theorem BE{x:Tr}(h:Ok .tm x):ml (row x)=some x:=by
 unfold ml;rw[Hh h.1];simp[h.2]
theorem Hj{s:Md}{x:Tr}(h:Ok s x)(p q:List Nd):endS (p++(row x++q)) s p.length=some (p.length+(row x).length):=by
 unfold endS;rw[List.drop_left,fA' x _ s q OK h.1];simp only[h.2,if_true]
 congr 1
 simp;omega
theorem BF(t:List Nd):endS t .tm 0=some t.length↔(ml t).isSome:=by
 unfold endS ml oB;rw[List.drop_zero];cases h:parse cnt nx t.length Md.tm t with
 |none=>simp
 |some q=>
  obtain⟨x,r⟩:=q;have b:=sI h;have d:=aS x;cases r with
  |nil=>by_cases a:gE' x=true<;>simp[a]
  |cons y r=>
   simp only[JV]at b
   by_cases a:gE' x=true
   ·simp[a];omega
   ·simp[a]
open Go Go.Wx Cd
def aY(n:Nd)(k:Int):Int:=if ((n.op=4 \/n.op=5)/\k=1) \/(n.op=7/\k=2)then 1 else 0
def arC(n:Nd)(nb:Int)(k:Int):Int:=if n.op=13 then (if k=1 then nb else 0)else aY n k
theorem lz{n:Nd}(h:n.op≠13)(nb k:Int):arC n nb k=aY n k:=by simp[arC,h]
section
variable{S:Type}(one:S ->Nd ->Int ->Option S)(raw:S ->Nd ->S)
mutual
def wT:Tr ->Int ->Int ->S ->Option S
 | .mk n ks,d,nb,s=>match (if n.op=3 \/n.op=13 then some (raw s n)else one s n d)with
  |none=>none
  |some s1=>wK ks n nb 0 d s1
def wK:List Tr ->Nd ->Int ->Int ->Int ->S ->Option S
 |[],_,_,_,_,s=>some s
 |x::r,n,nb,k,d,s=>match wT x (d+arC n nb k) n.b s with
  |none=>none
  |some s1=>wK r n nb (k+1) d s1
end
end
def cE{U:Type}(s:U×List Nd)(n:Nd):U×List Nd:=(s.1,s.2++[n])
theorem BG{U:Type}(one:U×List Nd ->Nd ->Int ->Option (U×List Nd)):∀(ks:List Tr) (n:Nd) (nb k d:Int) (s:U×List Nd),okL cnt nx ks n .tm k.toNat ->n.op=2 ->wK one cE ks n nb k d s=some (s.1,s.2++rows ks)
 |[],n,nb,k,d,s,_,_=>by simp[wK,rows]
 | .mk m l::r,n,nb,k,d,s,h,h2=>by
  obtain⟨h3,h4⟩:=h;have b:cnt .am m=some l.length:=by
   have:=h3.1
   rwa [show nx Md.tm n k.toNat= .am by simp[nx,h2]]at this
  have e:m.op=3/\l=[]:=by
   simp only[cnt]at b;split at b
   ·rename_i q
    exact⟨q.1,List.length_eq_zero_iff.1 (JB b).symm⟩
   ·cases b
  obtain⟨f,rfl⟩:=e;have g:∀a,okL cnt nx r n .tm a:=by
   have:∀(r:List Tr) (k a:Nat),okL cnt nx r n .tm k ->okL cnt nx r n .tm a:=by
    intro r
    induction r with
    |nil=>intros;trivial
    |cons y r i=>
     intro k a q;refine⟨?_,i _ _ q.2⟩;have:=q.1
     rwa [show nx Md.tm n k=nx Md.tm n a from rfl]at this
   exact λa=>this r _ a h4
  simp only[wK,wT,f,true_or,if_true,cE];rw[BG one r n nb (k+1) d _ (g _) h2];simp[rows,row]
theorem wA{n:Nd}{s:Md}:∀{r:List Tr} {k:Nat} (a:Nat),okL cnt nx r n s k ->okL cnt nx r n s a
 |[],_,_,_=>trivial
 |y::r,k,a,q=>by
  refine⟨?_,wA (r:=r) _ q.2⟩;have:=q.1;cases s<;>exact this
theorem nF{x:Tr}{r:List Tr}(h:eN' (x::r)=true):gE' x=true/\eN' r=true:=by simpa[eN']using h
theorem Ok.kids{n:Nd}{ks:List Tr}{s:Md}(h:Ok s (.mk n ks)):cnt s n=some ks.length/\okL cnt nx ks n s 0/\eN' ks=true:=by
 obtain⟨⟨b,d⟩,a⟩:=h;refine⟨b,d,?_⟩;simp only[gE',Bool.and_eq_true]at a;exact a.2
theorem jH{n:Nd}{s:Md}{x:Tr}{r:List Tr}{k:Nat}(h:okL cnt nx (x::r) n s k)(hi:eN' (x::r)=true):Ok (nx s n 0) x/\okL cnt nx r n s k/\eN' r=true:=by
 have a:=h.1;rw[show nx s n k=nx s n 0 by cases s<;>rfl]at a;exact⟨⟨a,(nF hi).1⟩,wA _ h.2,(nF hi).2⟩
section
variable{U:Type}{one:U×List Nd ->Nd ->Int ->Option (U×List Nd)}
mutual
theorem BH{G:Nat}(i:1<=G)(h:∀u l n d f b,one (u,l) n d=some (f,b) ->b.length<=l.length+G):∀(x:Tr) (d nb:Int) (u:U) (l:List Nd) (f:U) (b:List Nd),wT one cE x d nb (u,l)=some (f,b) ->b.length<=l.length+G*(row x).length
 | .mk n ks,d,nb,u,l,f,b,e=>by
  simp only[wT]at e;split at e
  ·cases e
  ·rename_i j a
   obtain⟨k,g⟩:=j;have m:g.length<=l.length+G:=by
    split at a
    ·simp only[cE,Option.some.injEq,Prod.mk.injEq]at a
     rw[<- a.2];simp;omega
    ·exact h _ _ _ _ _ _ a
   have o:=BI i h ks n nb 0 d k g f b e;simp only[row,JV,Nat.mul_add];omega
theorem BI{G:Nat}(g:1<=G)(h:∀u l n d b a,one (u,l) n d=some (b,a) ->a.length<=l.length+G):∀(ks:List Tr) (n:Nd) (nb k d:Int) (u:U) (l:List Nd) (b:U) (a:List Nd),wK one cE ks n nb k d (u,l)=some (b,a) ->a.length<=l.length+G*(rows ks).length
 |[],n,nb,k,d,u,l,b,a,e=>by
  simp only[wK,Option.some.injEq,Prod.mk.injEq]at e;rw[e.2];simp[rows]
 |x::r,n,nb,k,d,u,l,b,a,e=>by
  simp only[wK]at e;split at e
  ·cases e
  ·rename_i m f
   obtain⟨i,j⟩:=m;have o:=BH g h x _ _ u l i j f;have p:=BI g h r n nb (k+1) d i j b a e;simp only[rows,JK,Nat.mul_add];omega
end
theorem wB{x:Tr}(h:x.n.op≠13)(d nb a:Int)(s:U×List Nd):wT one cE x d nb s=wT one cE x d a s:=by
 obtain⟨n,e⟩:=x;simp only[Tr.n]at h;simp only[wT];split
 ·rfl
 ·rename_i f _
  have:∀(r:List Tr) (k:Int) (s:U×List Nd),wK one cE r n nb k d s=wK one cE r n a k d s:=by
   intro r
   induction r with
   |nil=>intros;rfl
   |cons y r b=>
    intro k s;simp only[wK,lz h,b]
  exact this _ _ _
end
theorem eb{n:Nd}{c:Nat}(h:cnt .tm n=some c):aw n=true/\n.op≠3/\n.op≠13/\c=if n.op=2 then n.b.toNat else (bp n).toNat:=by
 simp only[cnt]at h;split at h
 ·rename_i q
  exact⟨q.1,q.2.1,q.2.2,(JB h).symm⟩
 ·cases h
theorem nG{n:Nd}{c:Nat}(h:cnt .fn n=some c):aw n=true/\n.op=13/\c=2:=by
 simp only[cnt]at h;split at h
 ·rename_i q
  exact⟨q.2,q.1,(JB h).symm⟩
 ·cases h
theorem Ok.tm{n:Nd}{ks:List Tr}(h:Ok .tm (.mk n ks)):aw n=true/\n.op≠3/\n.op≠13:=by
 obtain⟨d,_⟩:=h.kids;obtain⟨a,b,c,_⟩:=eb d;exact⟨a,b,c⟩
theorem Ok.fn{x:Tr}(h:Ok .fn x):∃f ty bo,x= .mk f [ty,bo]/\f.op=13/\aw f=true/\Ok .tm ty/\Ok .tm bo:=by
 obtain⟨f,d⟩:=x;obtain⟨e,g,i⟩:=h.kids;obtain⟨a,b,c⟩:=nG e
 match d,c with
 |[ty,bo],_=>
  obtain⟨j,k,l⟩:=jH g i;obtain⟨m,_,_⟩:=jH k l;exact⟨f,ty,bo,rfl,b,a,j,m⟩
theorem pS':∀{ks:List Tr} {n:Nd},n.op=2 ->okL cnt nx ks n .tm 0 ->(rows ks).length=ks.length
 |[],n,_,_=>rfl
 | .mk m l::r,n,h2,h=>by
  obtain⟨h3,h4⟩:=h;have a:cnt .am m=some l.length:=by
   have:=h3.1
   rwa [show nx Md.tm n 0= .am by simp[nx,h2]]at this
  have b:l=[]:=by
   simp only[cnt]at a;split at a
   ·exact List.length_eq_zero_iff.1 (JB a).symm
   ·cases a
  subst b;have:=pS' h2 (wA 0 h4);simp[rows,row,this]
theorem db{n:Nd}(h:aw n=true):0<=n.b/\n.b<=1000/\0<=n.a/\n.a<=1048576:=by
 simp only[aw]at h
 repeat' split at h
 all_goals first|(simp[aE]at h;omega)|contradiction
theorem wC(n:Nd)(k:Int):0<=aY n k/\aY n k<=1:=by
 unfold aY;split<;>omega
section
variable(h:Int ->Nd ->Option Tr)
mutual
def gT:Tr ->Int ->Int ->Option Tr
 | .mk n ks,d,nb=>if n.op=1 then h d n else match gK ks n nb 0 d with
  |none=>none
  |some ks'=>some (.mk n ks')
def gK:List Tr ->Nd ->Int ->Int ->Int ->Option (List Tr)
 |[],_,_,_,_=>some []
 |x::r,n,nb,k,d=>match gT x (d+arC n nb k) n.b with
  |none=>none
  |some y=>match gK r n nb (k+1) d with
   |none=>none
   |some r'=>some (y::r')
end
def gU{U:Type}(s:U×List Nd)(n:Nd)(d:Int):Option (U×List Nd):=if n.op=1 then match h d n with
  |none=>none
  |some y=>some (s.1,s.2++row y)
 else some (s.1,s.2++[n])
end
section
variable{h:Int ->Nd ->Option Tr}{U:Type}
theorem oC{n:Nd}{s:Md}{c:Nat}(hc:cnt s n=some c)(h1:n.op=1):c=0:=by
 cases s with
 |tm=>
  obtain⟨_,_,_,e⟩:=eb hc;rw[e];simp[h1,bp]
 |fn=>
  obtain⟨_,e,_⟩:=nG hc;omega
 |am=>
  simp only[cnt]at hc;split at hc
  ·rename_i q
   omega
  ·cases hc
mutual
theorem EV':∀(x:Tr) (s:Md) (d nb:Int) (u:U) (l:List Nd),okT cnt nx x s ->wT (gU h) cE x d nb (u,l)=match gT h x d nb with
  |none=>none
  |some y=>some (u,l++row y)
 | .mk n ks,s,d,nb,u,l,b=>by
  obtain⟨hc,f⟩:=b
  by_cases a:n.op=1
  ·have:ks=[]:=List.length_eq_zero_iff.1 (oC hc a)
   subst this;simp only[wT,gT,gU,a,if_true];rw[if_neg OO];cases h d n with
   |none=>rfl
   |some y=>simp[wK]
  ·simp only[wT,gT,gU,if_neg a,cE]
   have e:(if n.op=3 \/n.op=13 then some (u,l++[n])else some (u,l++[n]))=some (u,l++[n]):=by split<;>rfl
   rw[e];simp only;rw[wK_g ks n s nb 0 d 0 u (l++[n]) f];cases gK h ks n nb 0 d with
   |none=>rfl
   |some g=>simp[row]
theorem wK_g:∀(ks:List Tr) (n:Nd) (s:Md) (nb k d:Int) (j:Nat) (u:U) (l:List Nd),okL cnt nx ks n s j ->wK (gU h) cE ks n nb k d (u,l)=match gK h ks n nb k d with
  |none=>none
  |some a=>some (u,l++rows a)
 |[],n,s,nb,k,d,j,u,l,_=>by simp[wK,gK,rows]
 |x::r,n,s,nb,k,d,j,u,l,b=>by
  obtain⟨e,hr⟩:=b;simp only[wK,gK];rw[EV' x (nx s n j) _ _ u l e];cases gT h x (d+arC n nb k) n.b with
  |none=>rfl
  |some y=>
   simp only;rw[wK_g r n s nb (k+1) d (j+1) u (l++row y) hr];cases gK h r n nb (k+1) d with
   |none=>rfl
   |some f=>simp[rows,List.append_assoc]
end
mutual
theorem wD(k:∀d n y,aw n=true ->n.op=1 ->h d n=some y ->Ok .tm y):∀(x:Tr) (s:Md) (d nb:Int) (y:Tr),Ok s x ->gT h x d nb=some y ->Ok s y/\(x.n.op≠1 ->y.n=x.n)
 | .mk n ks,s,d,nb,y,l,e=>by
  obtain⟨hc,m,hi⟩:=l.kids
  by_cases b:n.op=1
  ·simp only[gT,b,if_true]at e
   have f:s= .tm:=by
    cases s with
    |tm=>rfl
    |fn=>
     obtain⟨_,e,_⟩:=nG hc;omega
    |am=>
     simp only[cnt]at hc;split at hc
     ·rename_i q
      omega
     ·cases hc
   subst f;obtain⟨o,_⟩:=eb hc;exact⟨k d n y o b e,λq=>absurd b q⟩
  ·simp only[gT,if_neg b]at e
   split at e
   ·cases e
   rename_i g i;obtain rfl:=JB e;obtain⟨p,r,t,u⟩:=BJ k ks n s nb 0 d 0 g m hi i;refine⟨⟨⟨by rw[hc,p],r⟩,?_⟩,λ_=>rfl⟩;simp only[gE',t,Bool.and_true]
   by_cases j:n.op=2
   ·have a:=l.2
    simp only[gE',if_pos j,Bool.and_eq_true]at a ⊢;have f:nx s n 0= .am:=by
     cases s with
     |tm=>simp[nx,j]
     |fn=>
      obtain⟨_,e,_⟩:=nG hc;omega
     |am=>rfl
    exact u f (-1) a.1
   ·simp[j]
theorem BJ(p:∀d n y,aw n=true ->n.op=1 ->h d n=some y ->Ok .tm y):∀(ks:List Tr) (n:Nd) (s:Md) (nb k d:Int) (j:Nat) (a:List Tr),okL cnt nx ks n s j ->eN' ks=true ->gK h ks n nb k d=some a ->ks.length=a.length/\okL cnt nx a n s j/\eN' a=true/\(nx s n 0= .am ->∀b,qX' b ks=true ->qX' b a=true)
 |[],n,s,nb,k,d,j,a,_,_,e=>by
  simp only[gK,Option.some.injEq]at e;subst e;exact⟨rfl,trivial,rfl,λ_ _ h=>h⟩
 |x::r,n,s,nb,k,d,j,a,v,hi,e=>by
  obtain⟨t,hr⟩:=v;obtain⟨w,z⟩:=nF hi;simp only[gK]at e;split at e
  ·cases e
  rename_i y D;split at e
  ·cases e
  rename_i E g;obtain rfl:=JB e;obtain⟨⟨F,H⟩,I⟩:=wD p x (nx s n j) _ _ y ⟨t,w⟩ D;obtain⟨L,M,N,O⟩:=BJ p r n s nb (k+1) d (j+1) E hr z g;refine⟨by simp[L],⟨F,M⟩,by simp[eN',H,N],λu b i=>?_⟩;simp only[qX',Bool.and_eq_true,decide_eq_true_eq]at i ⊢;have o:x.n.op≠1:=by
   obtain⟨m,l⟩:=x;have f:=t.1;rw[show nx s n j= .am by rw[<- u];cases s<;>rfl]at f;simp only[cnt]at f;split at f
   ·rename_i q
    simp only[Tr.n];omega
   ·cases f
  rw[I o];exact⟨i.1,O u _ i.2⟩
end
end
def fB(by_ fr:Int)(d:Int)(n:Nd):Option Tr:=if fr+d<=n.a then (if by_>1048576-n.a then none else some (.mk {n with a:=n.a+by_} []))else some (.mk n [])
def ka(x:Tr)(by_ fr:Int):Option Tr:=gT (fB by_ fr) x 0 0
theorem nH{n:Nd}(h1:n.op=1)(ha:0<=n.a)(a:n.a<=1048576)(hb:n.b=0):Ok .tm (.mk n []):=by
 refine⟨⟨?_,trivial⟩,by simp[gE',eN',h1]⟩;have:aw n=true:=by simp[aw,h1,aE,ha,a,hb]
 simp[cnt,this,h1,bp]
theorem BK{by_ fr d:Int}{n:Nd}{y:Tr}(hb:0<=by_)(b:aw n=true)(h1:n.op=1)(e:fB by_ fr d n=some y):Ok .tm y:=by
 have a:aE n.a 0 1048576=true/\n.b=0:=by simpa[aw,h1]using b
 have:=dq.1 a.1;simp only[fB]at e;split at e
 ·split at e
  ·cases e
  ·obtain rfl:=JB e
   exact nH (by simpa using h1) OS OS a.2
 ·obtain rfl:=JB e
  exact nH h1 this.1 this.2 a.2
theorem Hk{x y:Tr}{by_ fr:Int}(hb:0<=by_)(a:Ok .tm x)(e:ka x by_ fr=some y):Ok .tm y:=
 (wD (λd n y b f e=>BK hb b f e) x .tm 0 0 y a e).1
end Tm
namespace Go.Proofs.YtjnjbghlemiklaaGreat
open Go.Wx Cd Tm
abbrev jd(n:Nd):Value:=.agg #[iV n.op,iV n.a,iV n.b]
def opI:Option Nat ->Int
 |some n=>n
 |none=>-1
section
variable{C:Mem}
def oD(t:List Nd)(i:Int):Int:=if i<0 then -1 else opI (endS t .tm i.toNat)
theorem qt(t:List Nd)(p:Nat):oD t (p:Int)=opI (endS t .tm p):=by
 unfold oD;rw[if_neg Oo]
 rfl
theorem mn{n:Nd}(h:aw n=true):0<=bp n/\bp n<=18:=by
 unfold bp;split
 ·omega
 split
 ·omega
 split
 ·rename_i a
  have:aE n.b 0 16=true:=by simp[aw,a]at h;exact h.2
  have:=dq.1 this;omega
 split
 ·rename_i b
  have:aE n.b 1 4=true:=by simp[aw,b]at h;exact h.1
  have:=dq.1 this;omega
 omega
def eg(t:List Nd):Int:=if t.length>4096 then 9 else if (ml t).isSome then 0 else 8
end
end Go.Proofs.YtjnjbghlemiklaaGreat
namespace Go.Wx
end Go.Wx
namespace Go.Proofs.YtjnjbghlemiklaaGreat
open Go.Wx Cd Tm
abbrev pt(b:Nat):Value:=.pointer (some ⟨b,0,none⟩)
abbrev qu(e:Int):List PanicEntry:=[{v:=.iface 209 (.agg #[iV e]),recovered:=false}]
structure Wk where
 bt:Nat
 ba:Nat
 bo:Nat
 bu:Nat
 bs:Nat
 Tt:Nat
 Ta:Nat
 To:Nat
 Tu:Nat
 Ts:Nat
 ta:Option Addr
 cap:Nat
 t:List Nd
 f:Nat
 caps:Array Value
 UB:List Nat
 lo:Nat
def Wk.clo(k:Wk):Value:=.func (.func 188) #[] #[pt k.bt,pt k.ba,pt k.bo,pt k.bu,pt k.bs]
def Wk.bl(k:Wk):List Nat:=[k.bt,k.ba,k.bo,k.bu,k.bs]++k.UB
structure Wk.Ok(k:Wk)(C:Mem):Prop where
 old:∀b o v,C b o v ->b<k.lo
 row:Sl rNd C k.ta k.t
 cap:k.t.length<=k.cap
 low:∀b∈k.bl,k.lo<=b
 nd:k.bl.Nodup
structure Wk.St(k:Wk)(C:Mem)(w:World)(p:Nat)(v:Value)(l:List Nd):Prop where
 sub:Sub C w
 bt:Bk w.heap k.bt [.slice k.ta k.t.length k.cap] k.Tt
 ba:Bk w.heap k.ba [iV (p:Int)] k.Ta
 bo:Bk w.heap k.bo [.func (.func k.f) #[] k.caps] k.To
 bu:Bk w.heap k.bu [v] k.Tu
 bs:Bk w.heap k.bs [k.clo] k.Ts
 own:Own rNd 42 k.lo w v l
 far:∀g,v.ownBlock=some g ->g ∉ k.bl
 ub:∀b∈k.UB,b<w.heap.size
def wE(v v':Value)(w:World):Prop:=∀g,v'.ownBlock=some g ->v.ownBlock=some g \/w.heap.size<=g
def Wk.X(k:Wk)(v:Value):List Nat:=k.ba::k.bu::(v.ownBlock.toList++k.UB)
end Go.Proofs.YtjnjbghlemiklaaGreat
namespace Go.Wx
def Hl(j:IntKind)(B:Nat):Rd Nat where
 sz:=1
 den _ cs x:=cs=[.int j (x:Int)]/\x<B
 len:=by rintro _ cs x ⟨rfl,_⟩;rfl
 mono:=by rintro _ _ cs x _ h;exact h
 one:=by rintro _ cs x ⟨rfl,_⟩ u hu;simp at hu;subst hu;rfl
def Hm(j:IntKind)(h:Array Obj)(b:Nat)(l:List Nat)(T:TypeId):Prop:=Bk h b (l.map λx:Nat=>Value.int j (x:Int)) T
end Go.Wx
namespace Go.Proofs.YtjnjbghlemiklaaGreat
open Go.Wx Cd Tm
section
variable{σ:Type}
def wF(k:Wk)(U:World ->σ ->Prop)(er:Int)(w:World)(v:Value):Option (σ×List Nd) ->Ending ->World ->Prop
 |some s,e,w'=>∃v',e= .returned v'/\Own rNd 42 k.lo w' v' s.2/\U w' s.1/\Kp (v.ownBlock.toList++k.UB) w w'/\wE v v' w
 |none,e,w'=>e= .panicked (qu er)/\Kp (v.ownBlock.toList++k.UB) w w'
def Wk.One(k:Wk)(C:Mem)(U:World ->σ ->Prop)(one:σ×List Nd ->Nd ->Int ->Option (σ×List Nd))(M:Nat)(er:Int):Prop:=
 ∀(w:World) (v:Value) (u:σ) (l:List Nd) (n:Nd) (d:Nat),I64 n.op ->I64 n.a ->I64 n.b ->aw n=true ->d<=100000 ->l.length<=M ->Sub C w ->Own rNd 42 k.lo w v l ->(∀g,v.ownBlock=some g ->g ∉ k.bl) ->U w u ->
  dz prog k.f/\Calls prog k.f (#[]++[v,jd n,iV (d:Int)].toArray++k.caps) w (wF k U er w v (one (u,l) n d))
def BL(k:Wk)(C:Mem)(U:World ->σ ->Prop)(er:Int)(w:World)(v:Value)(q:Nat):Option (σ×List Nd) ->Ending ->World ->Prop
 |some s,e,w'=>∃v',e= .returned (.tuple #[])/\k.St C w' q v' s.2/\U w' s.1/\Kp (k.X v) w w'/\wE v v' w
 |none,e,w'=>e= .panicked (qu er)/\Kp (k.X v) w w'
theorem BM{t r:List Nd}{p:Nat}{n:Nd}(h:t.drop p=n::r):t[p]?=some n/\p<t.length/\t.drop (p+1)=r:=by
 have a:p<t.length:=by
  rcases Nat.lt_or_ge p t.length with b|b
  ·exact b
  ·rw[JY b]at h;cases h
 obtain⟨x,d,e⟩:=ay a;rw[e]at h;injection h with b f
 subst b;exact⟨d,a,f⟩
end
end Go.Proofs.YtjnjbghlemiklaaGreat
namespace Go.Wx
def lv(P:Program)(rs:List ResultVar)(R:Ending ->World ->Prop)(u:FrameMode)(s:St)(w:World):Prop:=
 ∃fv cap dargs f args,s.d=[{target:=.fn fv cap,args:=dargs}]/\u≠ .run/\(invoke (.fn fv cap) dargs).run P w= .ok (.enter f args) w/\
  CallsD P f args u w λe u' w'=>(∃v,e= .returned v)/\settle u'= .returning/\jz P s rs w' λvs=>R (.returned (one vs)) w'
def qv(P:Program)(rs:List ResultVar)(R:Ending ->World ->Prop):Exit ->St ->World ->Prop
 | .normal,s,w=>lv P rs R .returning s w
 | .ret,s,w=>lv P rs R .returning s w
 | .panic ch,s,w=>lv P rs R (.panicking ch) s w
 |_,_,_=>False
theorem wG{P:Program}{fn:Func}{R:Ending ->World ->Prop}{u:FrameMode}{s:St}{w:World}{a:Act}{n:Nat}(g:Fr n a s)(h:lv P fn.results.toList R u s w):Leaves P fn a.tmps R a.defers u w:=by
 obtain⟨t,j,d,f,i,k,l,m,o⟩:=h;rw[g.defers,k];refine leaves_cons l m (o.mono ?_);rintro e x y ⟨⟨v,rfl⟩,b,p⟩;obtain⟨z,q,r⟩:=pB g p;simp only[b];exact⟨_,q,r⟩
theorem sN':∀{l:List (Nat×Value)} {t:Nat} {v:Value},get l t=some v ->(t,v)∈l
 |[],t,v,h=>by simp[zv]at h
 |(i,u)::r,t,v,h=>by
  simp only[dR]at h;cases hb:Nat.beq i t with
  |true=>
   rw[hb]at h;have e:=Nat.eq_of_beq_eq_true hb;subst e;have:u=v:=by simpa using h
   subst this;exact List.mem_cons_self
  |false=>
   rw[hb]at h;exact List.mem_cons_of_mem _ (sN' h)
theorem nI{n:Nat}{a:Act}{l:List (Nat×Value)}(h1:a.tmps.size=n)(h2:a.defers=[])(h:∀q∈l,a.tmps[q.1]?=some q.2):Fr n a ⟨l,[]⟩:=
 ⟨h1,h2,λt v b=>h _ (sN' b)⟩
theorem sK{P:Program}{fn:Func}{b:Frame}{cs:List Frame}{R:Ending ->FrameMode ->World ->Prop}{u:FrameMode}{n:Nat}{a:Act}{s:St}{w:World}(d:Fr n a s)(e:s.d=[])(hr:fn.results= #[])(f:b.mode=u)(h:R (.returned (.tuple #[])) u w):
  bodyPostS P fn b cs R .normal a (b::cs) w:=by
 refine⟨d.defers.trans e,u,?_,.tuple #[],?_,h⟩
 ·subst f;rfl
 ·simp[results,hr]
theorem wH{P:Program}{fn:Func}{b:Frame}{cs:List Frame}{R:Ending ->FrameMode ->World ->Prop}{u:FrameMode}{n:Nat}{a:Act}{s:St}{w:World}(d:Fr n a s)(e:s.d=[])(hr:fn.results= #[])(h:R (.returned (.tuple #[])) u w):
  bodyPostS P fn b cs R .normal a ({b with mode:=u}::cs) w:=by
 refine⟨d.defers.trans e,u,rfl,.tuple #[],?_,h⟩;simp[results,hr]
end Go.Wx
namespace Go.Proofs.YtjnjbghlemiklaaGreat
open Go.Wx Cd Tm
section
variable{σ:Type}
def BN(lo:Nat)(UB:List Nat)(U:World ->σ ->Prop)(er:Int)(w:World)(v:Value):Option (σ×List Nd) ->Ending ->World ->Prop
 |some s,e,w'=>∃v',e= .returned (.tuple #[v',iV 0])/\Own rNd 42 lo w' v' s.2/\U w' s.1/\Kp (v.ownBlock.toList++UB) w w'/\wE v v' w
 |none,e,w'=>e= .returned (.tuple #[.slice none 0 0,iV er])/\Kp (v.ownBlock.toList++UB) w w'
end
end Go.Proofs.YtjnjbghlemiklaaGreat
