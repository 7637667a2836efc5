import Derived.Test.YtdfeclpphaccnaaGreatMs01
import Derived.Maps.AppendAt
import Derived.Lib.AppendZerosOnto
import Derived.ArgAppend
set_option linter.all false
set_option maxHeartbeats 4000000
noncomputable section
namespace Go.Wx
def cst:Value ->AV
 | .int k m=>.c (.p (.int k m))
 | .bool b=>.c (.p (.bool b))
 |v=>.c (.p (.raw v))
def ao(A:AS):Operand ->Option AV
 | .tmp t=>look A.e t
 | .const v=>some (cst v)
 | .func f=>some (.c (.p (.raw (.func (.func f) #[] #[]))))
 | .global _=>none
def gV(A:AS)(l:List Nat):Bool:=
 List.rec (motive:=λ_=>Bool) true (λk _ ih=>match look A.m k with
  |some x=>match x.alive with
   |true=>ih
   |false=>false
  |none=>false) l
theorem nM{A:AS}:∀{l:List Nat},gV A l=true ->Lv A l
 |[],_=>λk a=>by cases a
 |j::r,h=>by
  have h:(match look A.m j with
   |some x=>match x.alive with
    |true=>gV A r
    |false=>false
   |none=>false)=true:=h
  split at h
  ·rename_i x b
   split at h
   ·rename_i c
    intro k a;rcases List.mem_cons.1 a with rfl|a
    ·exact⟨x,b,c⟩
    ·exact nM h k a
   ·cases h
  ·cases h
def rd(A:AS)(x:Operand)(k:AV ->Prop):Prop:=match ao A x with
 |some a=>match gV A a.refs with
  |true=>k a
  |false=>False
 |none=>False
theorem bM{A:AS}{x:Operand}{k:AV ->Prop}(h:rd A x k):∃a,ao A x=some a/\Lv A a.refs/\k a:=by
 unfold rd at h;split at h
 ·rename_i a b
  split at h
  ·rename_i c
   exact⟨a,b,nM c,h⟩
  ·exact h.elim
 ·exact h.elim
def ry(A:AS)(l:List Operand):(List AV ->Prop) ->Prop:=
 List.rec (motive:=λ_=>(List AV ->Prop) ->Prop) (λk=>k []) (λx _ ih k=>rd A x λa=>ih λaes=>k (a::aes)) l
def xG(A:AS)(l:List (Nat×Operand)):(List (Nat×AV) ->Prop) ->Prop:=
 List.rec (motive:=λ_=>(List (Nat×AV) ->Prop) ->Prop) (λk=>k []) (λp _ ih k=>rd A p.2 λa=>ih λaes=>k ((p.1,a)::aes)) l
def av':Op ->List Operand
 | .move x=>[x]
 | .assign x=>[x]
 | .pick c a b=>[c,a,b]
 | .box _ x=>[x]
 | .build _ ps=>ps.toList.map (·.2)
 | .buildSlice _ _ ps=>ps.toList.map (·.2)
 | .load _ x=>[x]
 | .store _ x y=>[x,y]
 | .binOp _ _ x y _=>[x,y]
 | .unOp _ _ x=>[x]
 | .convert _ _ x=>[x]
 | .makeSlice _ l c=>[l,c]
 | .slice _ x lo hi _=>x::(lo.toList++hi.toList)
 | .fieldAddr _ x _=>[x]
 | .field _ x _=>[x]
 | .indexAddr _ x i=>[x,i]
 | .extract x _=>[x]
 | .nilCheck x=>[x]
 | .makeInterface _ x=>[x]
 | .panic x=>[x]
 | .call c=>c.args.toList++(match c.callee with
  | .value x=>[x]
  |_=>[])
 | .makeFunc _ us cs=>us.toList++cs.toList
 | .makeMap _ _=>[]
 | .mapUpdate _ m i x=>[m,i,x]
 | .lookup _ x i _=>[x,i]
 |_=>[]
def refsOf(A:AS):List Operand ->List Nat
 |[]=>[]
 |x::r=>(match ao A x with
  |some a=>a.refs
  |none=>[])++refsOf A r
theorem nN{A:AS}:∀{l:List Operand} {x:Operand} {a:AV},x∈l ->ao A x=some a ->∀k∈a.refs,k∈refsOf A l
 |y::r,x,a,h,ha,k,b=>by
  simp only[refsOf];rcases List.mem_cons.1 h with rfl|h
  ·rw[ha]
   exact QW _ b
  ·exact QV _ (nN h ha k b)
def seR(A:AS)(l:List Nat):List Nat:=List.rec (motive:=λ_=>List Nat) [] (λk _ ih=>(match look A.m k with
 |some x=>x.refs
 |none=>[])++ih) l
def deepK(A:AS)(l:List Nat):List Nat:=l++(seR A l++(seR A (seR A l)++seR A (seR A (seR A l))))
structure Agr(mv:Nat)(A A':AS)(l:List Operand):Prop where
 e:∀x∈l,ao A' x=ao A x
 m:Nat.beq mv 1=false ->∀x∈l,∀a,ao A x=some a ->∀k∈a.refs,look A'.m k=look A.m k
 d:mv=2 ->∀k∈deepK A (refsOf A l),look A'.m k=look A.m k
 lv:∀x∈l,∀a,ao A x=some a ->Lv A a.refs ->Lv A' a.refs
theorem Agr.rfl'(A:AS)(l:List Operand):Agr 0 A A l:=⟨λ_ _=>rfl,λ_ _ _ _ _ _ _=>rfl,λ_ _ _=>rfl,λ_ _ _ _ h=>h⟩
def iS':Op ->Nat
 | .move _=>1
 | .assign _=>1
 | .makeFunc _ _ _=>1
 | .call c=>match c.callee with
  | .value _=>2
  |_=>0
 |_=>0
theorem pR{o:Oper}{c:Call}{b:Builtin}(a:o.op= .call c)(hc:c.callee= .builtin b):Nat.beq (iS' o.op) 1=false:=by
 rw[a];simp only[iS',hc]
 rfl
theorem It{o:Oper}{c:Call}{f:Operand}(a:o.op= .call c)(hc:c.callee= .value f):Nat.beq (iS' o.op) 1=false:=by
 rw[a];simp only[iS',hc]
 rfl
section
variable{w0:World}{X:List Nat}{C0:Mem}{A A':AS}{s s':St}{w w':World}{C C':Mem}{ρ ρ':Nat ->Value}
theorem RV.cst(C:Mem)(ρ:Nat ->Value)(v:Value):RA C ρ (cst v) v:=by
 cases v<;>first|exact RV.int _ _|exact RV.bool _|exact RV.raw _
theorem Rp.op(h:Rp w0 X C0 A' s w C ρ){mv:Nat}{l:List Operand}(d:Agr mv A A' l){x:Operand}(e:x∈l){a:AV}(ha:ao A x=some a)(hl:Lv A a.refs):Lv A' a.refs/\∃v,ev s.e x=some v/\RA C ρ a v:=by
 have b:Lv A' a.refs:=d.lv x e a ha hl;refine⟨b,?_⟩;have c:=ha;rw[<- d.e x e]at c;cases x with
 |tmp t=>exact h.slot t a c b
 |const v=>
  obtain rfl:=JB ha;exact⟨v,rfl,RV.cst C ρ v⟩
 |func f=>
  obtain rfl:=JB ha;exact⟨_,rfl,RV.raw _⟩
 |global g=>cases ha
end
def fin(n:Nat)(dst:Option Nat)(a:AV)(k:List (Nat×AV) ->Prop):Prop:=match dst with
 |none=>k []
 |some d=>match Nat.ble (d+1) n with
  |true=>k [(d,a)]
  |false=>False
theorem kA{n:Nat}{dst:Option Nat}{a:AV}{k:List (Nat×AV) ->Prop}(h:fin n dst a k):∃wr,k wr/\(∀t b,look wr t=some b ->b=a)/\∀(s:St) (v:Value) (Q:St ->Prop),(∀s',(∀t b,look wr t=some b ->get s'.e t=some v) ->(∀t,look wr t=none ->get s'.e t=get s.e t) ->s'.d=s.d ->Q s') ->put n s dst v Q:=by
 unfold fin at h;split at h
 ·exact⟨[],h,(λt b c=>by cases c),λs v Q g=>g s (λt b c=>by cases c) (λ_ _=>rfl) rfl⟩
 ·rename_i d
  split at h
  ·rename_i j
   refine⟨[(d,a)],h,λt b c=>?_,λs v Q g=>?_⟩
   ·rw[cI]at c
    cases f:Nat.beq d t with
    |true=>rw[f]at c;exact(JB c).symm
    |false=>rw[f]at c;cases c
   ·unfold put
    obtain⟨e,l⟩:=s;simp only[j];refine g _ (λt b c=>?_) (λt i=>?_) rfl
    ·rw[cI]at c
     rw[eV];cases f:Nat.beq d t with
     |true=>rfl
     |false=>rw[f]at c;cases c
    ·rw[cI]at i
     rw[eV];cases f:Nat.beq d t with
     |true=>rw[f]at i;cases i
     |false=>rfl
  ·exact h.elim
def Tri(w0:World)(X:List Nat)(C0:Mem)(P:Program)(τ:Tau)(n:Nat)(o:Oper)(A:AS)(wr:List (Nat×AV))(wm:List (Nat×SE))(F:List Nat):Prop:=
 ∀A' s w (K:St ->World ->Prop) (kp:List PanicEntry ->St ->World ->Prop),Agr (iS' o.op) A A' (av' o.op) ->(∀k∈F,NoRef k A') ->Rep w0 X C0 A' s w ->(∀s' w',Rep w0 X C0 (A'.upd wr wm) s' w' ->s'.d=s.d ->K s' w') ->aV P τ n o s w K kp
section
variable{w0:World}{X:List Nat}{C0:Mem}{P:Program}{τ:Tau}{n:Nat}{o:Oper}{A:AS}
theorem dc{a:AV}{k:List (Nat×AV) ->List (Nat×SE) ->List Nat ->Prop}(h:fin n o.dst a λwr=>k wr [] [])
  (H:∀A' s w C ρ,Agr (iS' o.op) A A' (av' o.op) ->Rp w0 X C0 A' s w C ρ ->∃v,(Lv A' a.refs ->RA C ρ a v)/\∀(K:St ->World ->Prop) (kp:List PanicEntry ->St ->World ->Prop),(put n s o.dst v λs'=>K s' w) ->aV P τ n o s w K kp):
  ∃wr wm F,k wr wm F/\Tri w0 X C0 P τ n o A wr wm F:=by
 obtain⟨wr,f,g,i⟩:=kA h;refine⟨wr,[],[],f,λA' s w K kp j _ c l=>?_⟩;obtain⟨C,ρ,c⟩:=c;obtain⟨v,p,d⟩:=H A' s w C ρ j c;refine d K kp (i s v _ λs' q r u=>l s' w ⟨C,ρ,c.slots (λt b e x=>⟨v,q t b e,?_⟩) r⟩ u);have:=g t b e;subst this;exact p x
end
structure nO(j:IntKind)(r:Int)(k:Int ->Prop):Prop where
 go:∃x,j.wrap r=x/\k x
structure kB(l:List (List PV))(sz:Nat)(i:Int)(k:Nat ->List PV ->Prop):Prop where
 go:∃(j:Nat) (x:List PV),i=(j:Int)/\l[j]?=some x/\x.length=sz/\k j x
structure pS(l:List (List PV))(i:Nat)(k:List PV ->Prop):Prop where
 go:∃x,l[i]?=some x/\k x
structure gB(p:Prop) [Decidable p](k:Bool ->Prop):Prop where
 go:k (decide p)
structure xH(m m':Int)(k:Prop):Prop where
 go:0<=m/\m<=9223372036854775807/\0<m'/\k
structure oQ(P:Program)(op:BinOp)(T:TypeId)(x y:Operand)(a b:AV)(k:PV ->Prop):Prop where
 go:
 ∃r,(∀(C:Mem) (ρ:Nat ->Value) va vb (w:World),RA C ρ a va ->RA C ρ b vb ->∃v,RV C r v/\(do eqGuard op T x y va vb;binOp op T va vb:Sem Value).run P w= .ok v w)/\k r
structure xI(P:Program)(T:TypeId)(j:IntKind)(m:Int)(off:Nat)(k:Nat ->Prop):Prop where
 go:∃d,(∀w b,(Instr.indexAt T (.pointer (some ⟨b,off,none⟩)) (.int j m)).run P w= .ok (.pointer (some ⟨b,off+d,none⟩)) w)/\k d
theorem gC{r:Int}{k:Int ->Prop}(h1:-9223372036854775808<=r)(h2:r<=9223372036854775807)(a:k r):nO .i64 r k:=by
 exact⟨⟨r,by rw[IntKind.wrap_i64];omega,a⟩⟩
theorem oR{l:List (List PV)}{sz:Nat}{i:Int}{k:Nat ->List PV ->Prop}(j:Nat)(x:List PV)(hi:i=(j:Int))(a:l[j]?=some x)(hsz:x.length=sz)(b:k j x):kB l sz i k:=by
 exact⟨⟨j,x,hi,a,hsz,b⟩⟩
theorem af{p:Prop} [Decidable p]{k:Bool ->Prop}(h1:p ->k true)(h2:¬ p ->k false):gB p k:=by
 refine⟨?_⟩
 by_cases h:p
 ·rw[KU h];exact h1 h
 ·rw[KH h];exact h2 h
theorem tU{p:Prop} [Decidable p]{k:Bool ->Prop}(h:p)(a:k true):gB p k:=af (λ_=>a) λb=>absurd h b
theorem mE{p:Prop} [Decidable p]{k:Bool ->Prop}(h:¬ p)(a:k false):gB p k:=af (λb=>absurd b h) λ_=>a
theorem xJ{p:Prop} [Decidable p]{k:Bool ->Prop}(a:k (decide p)):gB p k:=by
 exact⟨a⟩
theorem pT{m m':Int}{k:Prop}(h1:0<=m)(h2:m<=9223372036854775807)(h3:0<m')(a:k):xH m m' k:=by
 exact⟨⟨h1,h2,h3,a⟩⟩
theorem xK{l:List (List PV)}{i:Nat}{k:List PV ->Prop}(x:List PV)(a:l[i]?=some x)(b:k x):pS l i k:=by
 exact⟨⟨x,a,b⟩⟩
abbrev Kk:=List (Nat×AV) ->List (Nat×SE) ->List Nat ->Prop
section
variable(P:Program)(τ:Tau)(n:Nat)(o:Oper)(A:AS)(k:Kk)
def out(a:AV):Prop:=fin n o.dst a λwr=>k wr [] []
def tV(T:Nat)(cs:List PV)(off:Nat):Prop:=match look τ.tab T with
 |some (_,z)=>match Nat.ble (off+z.length) cs.length with
  |true=>out n o k (.c (.p (.agg ((cs.drop off).take z.length))))
  |false=>False
 |none=>match look τ.ones T with
  |some _=>match fh cs off with
   |some y=>out n o k (.c (.p y))
   |none=>False
  |none=>False
def xL(T:Nat)(a:AV):Prop:=match a with
 | .c (.ptr j off)=>match look A.m j with
  |some (.st _ _ cs)=>match look τ.tab T with
   |some (_,z)=>match Nat.ble (off+z.length) cs.length with
    |true=>out n o k (.agg ((cs.drop off).take z.length))
    |false=>False
   |none=>match look τ.ones T with
    |some _=>match fh cs off with
     |some c=>out n o k (.c c)
     |none=>False
    |none=>False
  |_=>False
 | .c (.ep cs off)=>tV τ n o k T cs off
 | .c (.rp j sz i off)=>match look A.m j with
  |some (.rw _ sz' l)=>match Nat.beq sz' sz with
   |true=>pS l i λx=>tV τ n o k T x off
   |false=>False
  |_=>False
 |_=>False
def xM(T:Nat)(a b:AV):Prop:=match look τ.slcs T with
 |none=>match a with
  | .c (.ptr q off)=>match b with
   | .c (.p (.int j m))=>xI P T j m off λd=>out n o k (.c (.ptr q (off+d)))
   |_=>False
  |_=>False
 |some (_,sz,_)=>match b with
  | .c (.p (.int _ m))=>match a with
   | .c (.p (.sl l))=>kB l sz m λ_ x=>out n o k (.c (.ep x 0))
   | .c (.row j)=>match look A.m j with
    |some (.rw _ sz' l)=>match Nat.beq sz' sz with
     |true=>kB l sz m λi _=>out n o k (.c (.rp j sz i 0))
     |false=>False
    |some (.fz l)=>kB l sz m λ_ x=>out n o k (.c (.ep x 0))
    |_=>False
   |_=>False
  |_=>False
def xN(T f:Nat)(a:AV):Prop:=match look τ.tab T with
 |none=>False
 |some (fs,_)=>match fh fs f with
  |none=>False
  |some (of,_,_)=>match a with
   | .c (.ptr j off)=>out n o k (.c (.ptr j (off+of)))
   | .c (.ep cs off)=>out n o k (.c (.ep cs (off+of)))
   | .c (.rp j sz i off)=>out n o k (.c (.rp j sz i (off+of)))
   |_=>False
def xO(T f:Nat)(a:AV):Prop:=match look τ.tab T with
 |none=>False
 |some (fs,_)=>match fh fs f with
  |none=>False
  |some (of,sz,true)=>match a with
   | .agg cs=>out n o k (.agg ((cs.drop of).take sz))
   | .c (.p (.agg cs))=>out n o k (.c (.p (.agg ((cs.drop of).take sz))))
   |_=>False
  |some (of,_,false)=>match a with
   | .agg cs=>match fh cs of with
    |some c=>out n o k (.c c)
    |none=>False
   | .c (.p (.agg cs))=>match fh cs of with
    |some y=>out n o k (.c (.p y))
    |none=>False
   |_=>False
def xP(i:Nat)(a:AV):Prop:=match a with
 | .tp cs=>match fh cs i with
  |some c=>out n o k (.c c)
  |none=>False
 | .c (.p (.tup l))=>match fh l i with
  |some y=>out n o k (.c (.p y))
  |none=>False
 |_=>False
def AV.isAgg:AV ->Bool
 | .agg _=>true
 | .c (.p (.agg _))=>true
 |_=>false
def AV.isCmp:AV ->Bool
 | .agg _=>true
 | .c (.p (.agg _))=>true
 | .c (.p (.sl _))=>true
 | .c (.p (.raw (.slice _ _ _)))=>true
 |_=>false
def xQ(op:BinOp)(T:Nat)(x y:Operand)(a b:AV):Prop:=match a,b with
 | .c (.p (.int j m)),.c (.p (.int j' m'))=>match mR' j j' with
  |false=>False
  |true=>match op with
   | .add=>nO j (m+m') λr=>out n o k (.c (.p (.int j r)))
   | .sub=>nO j (m-m') λr=>out n o k (.c (.p (.int j r)))
   | .mul=>nO j (m*m') λr=>out n o k (.c (.p (.int j r)))
   | .eql=>gB (m=m') λc=>out n o k (.c (.p (.bool c)))
   | .neq=>gB (m≠m') λc=>out n o k (.c (.p (.bool c)))
   | .lss=>gB (m<m') λc=>out n o k (.c (.p (.bool c)))
   | .leq=>gB (m<=m') λc=>out n o k (.c (.p (.bool c)))
   | .gtr=>gB (m'<m) λc=>out n o k (.c (.p (.bool c)))
   | .geq=>gB (m'<=m) λc=>out n o k (.c (.p (.bool c)))
   | .quo=>match j with
    | .i64=>xH m m' (out n o k (.c (.p (.int .i64 (m/m')))))
    |_=>False
   | .rem=>match j with
    | .i64=>xH m m' (out n o k (.c (.p (.int .i64 (m%m')))))
    |_=>False
   |_=>False
 | .c (.p (.bool m)),.c (.p (.bool m'))=>match look τ.ones T with
  |some 1=>match op with
   | .eql=>out n o k (.c (.p (.bool (m==m'))))
   | .neq=>out n o k (.c (.p (.bool (m !=m'))))
   |_=>False
  |_=>False
 |a,b=>match a.isCmp,b.isCmp with
  |true,true=>oQ P op T x y a b λr=>out n o k (.c (.p r))
  |_,_=>False
def xR(op:UnOp)(a:AV):Prop:=match op,a with
 | .not,.c (.p (.bool b))=>out n o k (.c (.p (.bool (!b))))
 | .neg,.c (.p (.int j m))=>nO j (0-m) λr=>out n o k (.c (.p (.int j r)))
 |_,_=>False
def xS(src dst:Nat)(a:AV):Prop:=match a,look τ.ones src,look τ.ones dst with
 | .c (.p (.int _ m)),some _,some c=>match kQ' c with
  |some j=>nO j m λr=>out n o k (.c (.p (.int j r)))
  |none=>False
 |_,_,_=>False
def xT(T:Nat)(a:AV):Prop:=match look τ.slcs T with
 |none=>False
 |some _=>match a with
  | .c (.p (.sl l))=>out n o k (.c (.p (.int .i64 l.length)))
  | .c (.p (.raw (.slice _ m _)))=>out n o k (.c (.p (.int .i64 m)))
  | .c (.row j)=>match look A.m j with
   |some (.rw _ _ l)=>out n o k (.c (.p (.int .i64 l.length)))
   |some (.fz l)=>out n o k (.c (.p (.int .i64 l.length)))
   |_=>False
  |_=>False
end
section
variable{w0:World}{X:List Nat}{C0:Mem}{P:Program}{τ:Tau}{n:Nat}{o:Oper}{A:AS}{k:Kk}
abbrev cv(w0:World)(X:List Nat)(C0:Mem)(P:Program)(τ:Tau)(n:Nat)(o:Oper)(A:AS)(k:Kk):Prop:=∃wr wm F,k wr wm F/\Tri w0 X C0 P τ n o A wr wm F
theorem aW{e:List (Nat×Value)}{x:Operand}{v:Value}{k:Value ->Prop}(h:ev e x=some v)(a:k v):wv e x k:=by
 unfold wv;rw[h];exact a
def unp:AV ->AV
 | .c (.rv _ k)=>.c (.row k)
 |a=>a
theorem Iu{C:Mem}{ρ:Nat ->Value}{a:AV}{v:Value}(h:RA C ρ a v):RA C ρ (unp a) v:=by
 cases a with
 |c x=>
  cases x with
  |rv u k=>exact h.2
  |_=>exact h
 |_=>exact h
theorem CE{x:Operand}{a:AV}(b:o.op= .move x \/o.op= .assign x)(ha:ao A x=some a)(hl:Lv A a.refs)(h:out n o k (unp a)):cv w0 X C0 P τ n o A k:=by
 refine dc h λA' s w C ρ c d=>?_;rcases b with b|b
 all_goals
  obtain⟨_,v,e,f⟩:=d.op c (x:=x) (by rw[b];simp[av']) ha hl;refine⟨v,λ_=>Iu f,λK i g=>?_⟩;unfold aV;simp only[b];exact aW e g
theorem Iv{x:Operand}{j off:Nat}(a:o.op= .nilCheck x)(ha:ao A x=some (.c (.ptr j off)))(hl:Lv A (AV.c (.ptr j off)).refs)(h:out n o k (.c (.ptr j off))):cv w0 X C0 P τ n o A k:=by
 refine dc h λA' s w C ρ d f=>?_;obtain⟨_,v,g,i⟩:=f.op d (x:=x) (by rw[a];simp[av']) ha hl;obtain⟨b,l,e⟩:=i;subst e;refine⟨_,λ_=>⟨b,l,rfl⟩,λK q p=>?_⟩;unfold aV;simp only[a];exact aW g p
theorem CF{x y z:Operand}{t:Bool}{a:AV}(d:o.op= .pick x y z)(l:ao A x=some (.c (.p (.bool t))))(ha:ao A (if t=true then y else z)=some a)(hl:Lv A a.refs)(h:out n o k a):cv w0 X C0 P τ n o A k:=by
 refine dc h λA' s w C ρ f g=>?_;obtain⟨_,v0,e,b⟩:=g.op f (x:=x) (by rw[d];simp[av']) l (λk q=>by cases q);obtain⟨_,v,i,r⟩:=g.op f (x:=if t=true then y else z) (by rw[d];cases t<;>simp[av']) ha hl;refine⟨v,λ_=>r,λK u j=>?_⟩;have b:RV C (.bool t) v0:=b;cases b;unfold aV;simp only[d];refine aW e ?_;cases t with
 |true=>exact tQ rfl (aW i j)
 |false=>exact tR rfl (aW i j)
theorem Iw{x:Operand}{i:Nat}{a:AV}(g:o.op= .extract x i)(ha:ao A x=some a)(hl:Lv A a.refs)(h:xP n o k i a):cv w0 X C0 P τ n o A k:=by
 unfold xP at h;split at h
 ·rename_i B
  split at h
  ·rename_i c j
   refine dc h λA' s w C ρ p q=>?_;obtain⟨_,v,r,d,rfl,e,b⟩:=q.op p (x:=x) (by rw[g];simp[av']) ha hl;rw[gA]at j;have D:=aM j;have f:d[i]?=some d[i]:=gE;refine⟨d[i],λ_=>b i c _ j f,λK E t=>?_⟩;unfold aV;simp only[g];refine aW r ?_;simp only[gA,f];exact t
  ·exact h.elim
 ·rename_i l
  split at h
  ·rename_i y u
   refine dc h λA' s w C ρ p q=>?_;obtain⟨_,v,r,z⟩:=q.op p (x:=x) (by rw[g];simp[av']) ha hl;have z:RV C (.tup l) v:=z;cases z with
   |tup B d e b=>
    rw[gA]at u;have D:=aM u;have f:d[i]?=some d[i]:=gE;refine⟨d[i],λ_=>b i y _ u f,λK E t=>?_⟩;unfold aV;simp only[g];refine aW r ?_;simp only[gA,f];exact t
  ·exact h.elim
 ·exact h.elim
theorem Ix{op:UnOp}{T:Nat}{x:Operand}{a:AV}(d:o.op= .unOp op T x)(ha:ao A x=some a)(hl:Lv A a.refs)(h:xR n o k op a):cv w0 X C0 P τ n o A k:=by
 unfold xR at h;split at h
 ·rename_i b
  refine dc h λA' s w C ρ e f=>?_;obtain⟨_,v,g,c⟩:=f.op e (x:=x) (by rw[d];simp[av']) ha hl;have c:RV C (.bool b) v:=c;cases c;refine⟨.bool (!b),λ_=>RV.bool _,λK l i=>?_⟩;unfold aV;simp only[d];exact aW g i
 ·rename_i j m
  replace h:=h.go
  obtain⟨r,p,h⟩:=h;refine dc h λA' s w C ρ e f=>?_;obtain⟨_,v,g,c⟩:=f.op e (x:=x) (by rw[d];simp[av']) ha hl;have c:RV C (.int j m) v:=c;cases c;refine⟨.int j r,λ_=>RV.int _ _,λK l i=>?_⟩;unfold aV;simp only[d];refine aW g ?_;unfold tL;exact pL r p i
 ·exact h.elim
theorem Iy{src dst:Nat}{x:Operand}{a:AV}(d:o.op= .convert src dst x)(ha:ao A x=some a)(hl:Lv A a.refs)(h:xS τ n o k src dst a):cv w0 X C0 P τ n o A k:=by
 unfold xS at h;split at h
 ·rename_i j m c1 c e f
  split at h
  ·rename_i g i
   replace h:=h.go
   obtain⟨r,l,h⟩:=h;refine dc h λA' s w C ρ p q=>?_;obtain⟨_,v,t,b⟩:=q.op p (x:=x) (by rw[d];simp[av']) ha hl;have b:RV C (.int j m) v:=b;cases b;refine⟨.int g r,λ_=>RV.int _ _,λK y u=>?_⟩;unfold aV;simp only[d];refine aW t ?_;simp only[e,f,i];exact pL r l u
  ·exact h.elim
 ·exact h.elim
end
section
variable{w0:World}{X:List Nat}{C0:Mem}{P:Program}{τ:Tau}{n:Nat}{o:Oper}{A A':AS}{k:Kk}{s:St}{w:World}{C:Mem}{ρ:Nat ->Value}
def Ep(C:Mem)(w:World)(cs:List PV)(off:Nat)(v:Value):Prop:=∃(b o0:Nat) (f:Nat ->Value),v= .pointer (some ⟨b,o0+off,none⟩)/\∀(j:Nat) y,cs[j]?=some y ->Cl w.heap b (o0+j) (f j)/\RV C y (f j)
theorem Rp.ep(h:Rp w0 X C0 A s w C ρ){cs:List PV}{off:Nat}{v:Value}(d:RC C ρ (.ep cs off) v):Ep C w cs off v:=by
 obtain⟨b,e,f,g,a⟩:=d;exact⟨b,e,f,g,λj y c=>⟨h.sub _ _ _ (a j y c).1,(a j y c).2⟩⟩
theorem Rp.rp(h:Rp w0 X C0 A s w C ρ){j e sz i off:Nat}{l:List (List PV)}(hm:look A.m j=some (.rw e sz l)){x:List PV}(z:l[i]?=some x){v:Value}(u:RC C ρ (.rp j sz i off) v):Ep C w x off v:=by
 obtain⟨d,O,B,Y,K⟩:=h.ent j _ hm;obtain⟨b,m,c,Q,rfl⟩:=u;have Z:=aM z;have r:d[i]?=some d[i]:=gE;obtain⟨L,f⟩:=K i _ x r z;obtain⟨a,R,u,S,M,T⟩:=pO O.1;rw[Q]at u;injection u with U h2 h3
 have V:=B x (JQ z);have t:∀D∈d,D.length=sz:=λD E=>by
  obtain⟨q,F⟩:=JH E;have W:=aM F;exact(K q D _ F (gE)).1
 refine⟨b,i*sz,λq=>(d[i]).getD q undef,rfl,λq y N=>?_⟩;have F:=aM N;have H:(d[i])[q]?=some (d[i])[q]:=gE;have e:(d[i]).getD q undef=(d[i])[q]:=by simp[QK,H]
 show Cl w.heap b (i*sz+q) ((d[i]).getD q undef)/\RV C y ((d[i]).getD q undef);rw[e];refine⟨?_,(f q y _ N H).2⟩;rcases T with h0|⟨g,p,_,_,I⟩
 ·omega
 ·rw[<- U]at p
  injection p with p
  injection p with p
  subst p;exact I _ _ (pQ d t i q _ _ r H)
theorem CG{T:Nat}{x:Operand}{cs:List PV}{off:Nat}(E:o.op= .load T x)(g:∀A' s w C ρ,Agr (iS' o.op) A A' (av' o.op) ->Rp w0 X C0 A' s w C ρ ->∃v,ev s.e x=some v/\Ep C w cs off v)(h:tV τ n o k T cs off):cv w0 X C0 P τ n o A k:=by
 unfold tV at h;split at h
 ·rename_i q z p
  split at h
  ·rename_i j
   have j:=QX j;refine dc h λA' s w C ρ r t=>?_;obtain⟨v,B,b,F,f,rfl,l⟩:=g A' s w C ρ r t;have c:∀(i:Nat) u,((List.range z.length).map λi=>f (off+i))[i]?=some u ->i<z.length/\u=f (off+i):=λi u a=>by
    rw[JX]at a;have e:i<z.length:=by
     rcases Nat.lt_or_ge i z.length with h|h
     ·exact h
     ·rw[QF (by simpa using h)]at a;cases a
    rw[List.getElem?_range e]at a;exact⟨e,(JB a).symm⟩
   have D:∀i,i<z.length ->∃y,cs[off+i]?=some y:=λi e=>⟨_,gE⟩
   refine⟨.agg ((List.range z.length).map λi=>f (off+i)).toArray,λ_=>RV.agg _ _ Uk λi y u d a=>?_,λK H g=>?_⟩
   ·obtain⟨e,rfl⟩:=c i u a
    rw[List.getElem?_take,KX e,List.getElem?_drop]at d;exact(l _ y d).2
   ·unfold aV
    simp only[E];refine aW B ?_;simp only[p];refine lz _ Ud (λi u a=>?_) g;obtain⟨e,rfl⟩:=c i u a;obtain⟨y,d⟩:=D i e;rw[Nat.add_assoc];exact(l _ y d).1
  ·exact h.elim
 ·rename_i p
  split at h
  ·rename_i q I
   split at h
   ·rename_i y d
    rw[gA]at d;refine dc h λA' s w C ρ r t=>?_;obtain⟨v,B,b,F,f,rfl,l⟩:=g A' s w C ρ r t;refine⟨f off,λ_=>(l off y d).2,λK H g=>?_⟩;unfold aV;simp only[E];refine aW B ?_;simp only[p,I];exact ld (l off y d).1.cell g
   ·exact h.elim
  ·exact h.elim
theorem Agr.at{mv:Nat}{l:List Operand}(b:Agr mv A A' l)(c:Nat.beq mv 1=false){x:Operand}(d:x∈l){a:AV}(ha:ao A x=some a){j:Nat}(e:j∈a.refs){y:SE}(hm:look A.m j=some y):look A'.m j=some y:=by
 rw[b.m c x d a ha j e];exact hm
theorem Iz{T:Nat}{x:Operand}{a:AV}(H:o.op= .load T x)(ha:ao A x=some a)(hl:Lv A a.refs)(h:xL τ n o A k T a):cv w0 X C0 P τ n o A k:=by
 have d:x∈av' o.op:=by rw[H];simp[av']
 unfold xL at h;split at h
 ·rename_i j f
  split at h
  ·rename_i g0 T' U V
   have N:∀A' s w C ρ,Agr (iS' o.op) A A' (av' o.op) ->Rp w0 X C0 A' s w C ρ ->∃b t,ev s.e x=some (.pointer (some ⟨b,f,none⟩))/\Bk w.heap b t T'/\t.length=U.length/\∀(i:Nat) c u,U[i]?=some c ->t[i]?=some u ->Lv A' c.refs ->RC C ρ c u:=λA' s w C ρ B r=>by
    obtain⟨_,v,D,b,O,rfl⟩:=r.op B d ha hl;obtain⟨b',t,g,Q,_,p,R⟩:=r.ent j _ (B.at (by rw[H];rfl) d ha (by simp[AV.refs,AC.refs]) V);rw[O]at g;injection g with g
    injection g with g
    injection g with g
    subst g;exact⟨b,t,D,Q,p,λi c u E M=>(R i c u E M).2⟩
   split at h
   ·rename_i q z W
    split at h
    ·rename_i S
     have S:=QX S;refine dc h λA' s w C ρ B r=>?_;obtain⟨b,t,D,Q,p,R⟩:=N A' s w C ρ B r;refine⟨.agg ((t.drop f).take z.length).toArray,λhl=>⟨_,rfl,by simp[p],λi c u E M=>?_⟩,λK kp Y=>?_⟩
     ·have I:=JQ E
      rw[List.getElem?_take]at E M;split at E
      ·rename_i hi
       rw[KX hi]at M;rw[List.getElem?_drop]at E M;exact R _ c u E M λq Z=>hl q (jW I Z)
      ·cases E
     ·unfold aV
      simp only[H];refine aW D ?_;simp only[W];refine lz _ Uk (λi u F=>?_) Y;rw[List.getElem?_take]at F;split at F
      ·rw[List.getElem?_drop]at F
       exact Q.cl F
      ·cases F
    ·exact h.elim
   ·rename_i W
    split at h
    ·rename_i q Z
     split at h
     ·rename_i c L
      rw[gA]at L;refine dc h λA' s w C ρ B r=>?_;obtain⟨b,t,D,Q,p,R⟩:=N A' s w C ρ B r;have hi:=aM L;have F:t[f]?=some t[f]:=gE;refine⟨t[f],λhl=>R f c _ L F hl,λK kp Y=>?_⟩;unfold aV;simp only[H];refine aW D ?_;simp only[W,Z];exact ld (Q.cl F).cell Y
     ·exact h.elim
    ·exact h.elim
  ·exact h.elim
 ·rename_i U f
  refine CG H (λA' s w C ρ B r=>?_) h;obtain⟨_,v,D,hr⟩:=r.op B d ha hl;exact⟨v,D,r.ep hr⟩
 ·rename_i j sz i f
  split at h
  ·rename_i e a0 l V
   split at h
   ·rename_i O
    have O:=QJ O;subst O
    replace h:=h.go
    obtain⟨y,hy,h⟩:=h;refine CG H (λA' s w C ρ B r=>?_) h;obtain⟨_,v,D,hr⟩:=r.op B d ha hl;exact⟨v,D,r.rp (B.at (by rw[H];rfl) d ha (by simp[AV.refs,AC.refs]) V) hy hr⟩
   ·exact h.elim
  ·exact h.elim
 ·exact h.elim
theorem RV.at{l:List (List PV)}{v:Value}(h:RV C (.sl l) v){i sz:Nat}{x:List PV}(d:l[i]?=some x)(hsz:x.length=sz):∃(b o c:Nat) (f:Nat ->Value),v= .slice (some ⟨b,o,none⟩) l.length c/\l.length<=c/\∀(j:Nat) y,x[j]?=some y ->C b (o+i*sz+j) (f j)/\RV C y (f j):=by
 cases h with
 |nil a c=>simp at d
 |sl l g b o c f q r t u=>
  have:=q x (JQ d);have e:g=sz:=Uo
  subst e;exact⟨b,o,c,f i,rfl,r,λj y p=>⟨t i j x y d p,u i j x y d p⟩⟩
theorem IA{T:Nat}{x y:Operand}{a b:AV}(H:o.op= .indexAddr T x y)(ha:ao A x=some a)(F:Lv A a.refs)(hb:ao A y=some b)(I:Lv A b.refs)(h:xM P τ n o A k T a b):cv w0 X C0 P τ n o A k:=by
 have B:x∈av' o.op:=by rw[H];simp[av']
 have L:y∈av' o.op:=by rw[H];simp[av']
 unfold xM at h;split at h
 ·rename_i W
  split at h
  ·rename_i q N
   split at h
   ·rename_i j m
    obtain⟨d,hd,h⟩:=h.go;refine dc h λA' s w C ρ r t=>?_;obtain⟨_,v,E,D⟩:=t.op r B ha F;obtain⟨_,u,O,p⟩:=t.op r L hb I;have p:RV C (.int j m) u:=p;cases p;obtain⟨b,hb,rfl⟩:=(show ∃b,ρ q= .pointer (some ⟨b,0,none⟩)/\v= .pointer (some ⟨b,N,none⟩)from D)
    refine⟨.pointer (some ⟨b,N+d,none⟩),λ_=>⟨b,hb,rfl⟩,λK kp Q=>?_⟩;unfold aV;simp only[H];refine aW E (aW O ?_);unfold EvRun;exact⟨_,w,hd w b,Q⟩
   ·exact h.elim
  ·exact h.elim
 rename_i e Y bs W;split at h
 ·rename_i j m
  have R:∀(l:List (List PV)),kB l Y m (λ_ x=>out n o k (.c (.ep x 0))) ->(∀A' s w C ρ,Agr (iS' o.op) A A' (av' o.op) ->Rp w0 X C0 A' s w C ρ ->∃v,ev s.e x=some v/\RV C (.sl l) v) ->cv w0 X C0 P τ n o A k:=λl h E=>by
   replace h:=h.go
   obtain⟨i,z,Z,V,S,h⟩:=h;refine dc h λA' s w C ρ r t=>?_;obtain⟨v,E,D⟩:=E A' s w C ρ r t;obtain⟨_,u,O,p⟩:=t.op r L hb I;have p:RV C (.int j m) u:=p;cases p;obtain⟨b,o',c,f,rfl,_,hf⟩:=D.at V S;refine⟨.pointer (some ⟨b,o'+i*Y,none⟩),λ_=>⟨b,o'+i*Y,f,rfl,hf⟩,λK kp Q=>?_⟩;unfold aV;simp only[H];refine aW E (aW O ?_);simp only[W];exact ix i Z (aM V) Q
  split at h
  ·rename_i l
   exact R l h λA' s w C ρ r t=>by
    obtain⟨_,v,E,D⟩:=t.op r B ha F;exact⟨v,E,D⟩
  ·rename_i q
   split at h
   ·rename_i e' a0 l hm
    split at h
    ·rename_i M
     have M:=QJ M;subst M
     replace h:=h.go
     obtain⟨i,z,Z,V,S,h⟩:=h;refine dc h λA' s w C ρ r t=>?_;obtain⟨_,v,E,D⟩:=t.op r B ha F;obtain⟨_,u,O,p⟩:=t.op r L hb I;have p:RV C (.int j m) u:=p;cases p;have D:v=ρ q:=D;subst D;obtain⟨a4,a1,_⟩:=t.ent q _ (r.at (by rw[H];rfl) B ha (by simp[AV.refs,AC.refs]) hm);obtain⟨ad,a5,U,_,_,a2⟩:=pO a1.1;have a3:=aM V;rcases a2 with h0|⟨g,rfl,_⟩
     ·omega
     ·refine⟨.pointer (some ⟨g,i*a0+0,none⟩),λ_=>⟨g,_,_,U,rfl⟩,λK kp Q=>?_⟩
      unfold aV;simp only[H];refine aW E (aW O ?_);simp only[W,U];refine ix i Z a3 ?_
      simpa using Q
    ·exact h.elim
   ·rename_i l hm
    exact R l h λA' s w C ρ r t=>by
     obtain⟨_,v,E,D⟩:=t.op r B ha F;have D:v=ρ q:=D;subst D;exact⟨_,E,t.ent q _ (r.at (by rw[H];rfl) B ha (by simp[AV.refs,AC.refs]) hm)⟩
   ·exact h.elim
  ·exact h.elim
 ·exact h.elim
theorem IB{T f:Nat}{x:Operand}{a:AV}(q:o.op= .fieldAddr T x f)(ha:ao A x=some a)(hl:Lv A a.refs)(h:xN τ n o k T f a):cv w0 X C0 P τ n o A k:=by
 have j:x∈av' o.op:=by rw[q];simp[av']
 unfold xN at h;split at h
 ·exact h.elim
 rename_i N z B;split at h
 ·exact h.elim
 rename_i of q1 O D;have p:∀{r:AV},out n o k r ->(∀C ρ b e,RA C ρ a (.pointer (some ⟨b,e,none⟩)) ->RA C ρ r (.pointer (some ⟨b,e+of,none⟩))) ->(∀C ρ v,RA C ρ a v ->∃b e,v= .pointer (some ⟨b,e,none⟩)) ->cv w0 X C0 P τ n o A k:=λh E F=>by
  refine dc h λA' s w C ρ H I=>?_;obtain⟨_,v,L,t⟩:=I.op H j ha hl;obtain⟨b,e,rfl⟩:=F C ρ v t;refine⟨_,λ_=>E C ρ b e t,λK Q M=>?_⟩;unfold aV;simp only[q];refine aW L ?_;simp only[B,D,pN];exact M
 split at h
 ·refine p h (λC ρ b e ⟨g,l,d⟩=>⟨b,?_,?_⟩) λC ρ v ⟨g,l,d⟩=>⟨_,_,d⟩
  ·injection d with d;injection d with d;injection d with d i;rw[l,d]
  ·injection d with d;injection d with d;injection d with d i;rw[i]
 ·refine p h (λC ρ b e ⟨g,u,f,d,y⟩=>⟨g,u,f,?_,y⟩) λC ρ v ⟨g,u,f,d,y⟩=>⟨_,_,d⟩
  injection d with d;injection d with d;injection d with d i;rw[d,i,Nat.add_assoc]
 ·refine p h (λC ρ b e ⟨g,m,c,l,d⟩=>⟨g,m,c,l,?_⟩) λC ρ v ⟨g,m,c,l,d⟩=>⟨_,_,d⟩
  injection d with d;injection d with d;injection d with d i;rw[d,i,Nat.add_assoc]
 ·exact h.elim
theorem IC{T f:Nat}{x:Operand}{a:AV}(D:o.op= .field T x f)(ha:ao A x=some a)(hl:Lv A a.refs)(h:xO τ n o k T f a):cv w0 X C0 P τ n o A k:=by
 have e:x∈av' o.op:=by rw[D];simp[av']
 unfold xO at h;split at h
 ·exact h.elim
 rename_i O z L;split at h
 ·exact h.elim
 ·rename_i of N E
  split at h
  ·rename_i F
   refine dc h λA' s w C ρ p q=>?_;obtain⟨_,v,r,g,rfl,b,t⟩:=q.op p e ha hl;refine⟨.agg ((g.drop of).take N).toArray,λ_=>⟨_,rfl,by simp[b],λi c u j l=>?_⟩,λK M y=>?_⟩
   ·rw[List.getElem?_take]at j l
    split at j
    ·rename_i H
     rw[KX H]at l;rw[List.getElem?_drop]at j l;exact t _ c u j l
    ·cases j
   ·unfold aV
    simp only[D];refine aW r ?_;simp only[L,E];exact y
  ·rename_i F
   refine dc h λA' s w C ρ p q=>?_;obtain⟨_,v,r,B⟩:=q.op p e ha hl;have B:RV C (.agg F) v:=B;cases B with
   |agg _ g b t=>
    refine⟨.agg ((g.drop of).take N).toArray,λ_=>RV.agg _ _ (by simp[b]) λi c u j l=>?_,λK M y=>?_⟩
    ·rw[List.getElem?_take]at j l
     split at j
     ·rename_i H
      rw[KX H]at l;rw[List.getElem?_drop]at j l;exact t _ c u j l
     ·cases j
    ·unfold aV
     simp only[D];refine aW r ?_;simp only[L,E];exact y
  ·exact h.elim
 ·rename_i of q1 E
  split at h
  ·rename_i F
   split at h
   ·rename_i c d
    rw[gA]at d;refine dc h λA' s w C ρ p q=>?_;obtain⟨_,v,r,g,rfl,b,t⟩:=q.op p e ha hl;have H:=aM d;have I:g[of]?=some g[of]:=gE;refine⟨g[of],λ_=>t of c _ d I,λK M y=>?_⟩;unfold aV;simp only[D];refine aW r ?_;simp only[L,E,gA,I];exact y
   ·exact h.elim
  ·rename_i F
   split at h
   ·rename_i c d
    rw[gA]at d;refine dc h λA' s w C ρ p q=>?_;obtain⟨_,v,r,B⟩:=q.op p e ha hl;have B:RV C (.agg F) v:=B;cases B with
    |agg _ g b t=>
     have H:=aM d;have I:g[of]?=some g[of]:=gE;refine⟨g[of],λ_=>t of c _ d I,λK M y=>?_⟩;unfold aV;simp only[D];refine aW r ?_;simp only[L,E,gA,I];exact y
   ·exact h.elim
  ·exact h.elim
end
section
variable{w0:World}{X:List Nat}{C0:Mem}{P:Program}{τ:Tau}{n:Nat}{o:Oper}{A A':AS}{k:Kk}{s s':St}{w w':World}{C:Mem}{ρ:Nat ->Value}
theorem cmp_of{a:AV}{v:Value}(ha:a.isCmp=true)(h:RA C ρ a v):(∃us,v= .agg us) \/∃a n c,v= .slice a n c:=by
 cases a with
 |tp d=>cases ha
 |agg d=>
  obtain⟨us,e,_⟩:=h;exact .inl ⟨_,e⟩
 |c x=>
  cases x with
  |p x=>
   have h:RV C x v:=h;cases h with
   |agg d us g h=>exact .inl ⟨_,rfl⟩
   |nil a c=>exact .inr ⟨_,_,_,rfl⟩
   |sl l i b o c f=>exact .inr ⟨_,_,_,rfl⟩
   |raw v=>
    cases v with
    |slice a n c=>exact .inr ⟨_,_,_,rfl⟩
    |_=>cases ha
   |_=>cases ha
  |_=>cases ha
theorem ID{a:AV}{v:Value}(ha:a.isAgg=true)(h:RA C ρ a v):∃us,v= .agg us:=by
 cases a with
 |tp b=>cases ha
 |agg b=>
  obtain⟨us,e,_⟩:=h;exact⟨_,e⟩
 |c x=>
  cases x with
  |p x=>
   cases x with
   |agg b=>
    have h:RV C (.agg b) v:=h;cases h;exact⟨_,rfl⟩
   |_=>cases ha
  |_=>cases ha
theorem IE{op:BinOp}{T S:Nat}{x y:Operand}{a b:AV}(L:o.op= .binOp op T x y S)(ha:ao A x=some a)(z:Lv A a.refs)(hb:ao A y=some b)(B:Lv A b.refs)(h:xQ P τ n o k op T x y a b):cv w0 X C0 P τ n o A k:=by
 have D:x∈av' o.op:=by rw[L];simp[av']
 have E:y∈av' o.op:=by rw[L];simp[av']
 unfold xQ at h;split at h
 ·rename_i j m U m'
  split at h
  ·exact h.elim
  ·rename_i i
   have d:∀(r:Value) (q:PV),out n o k (.c (.p q)) ->(∀C,RV C q r) ->(∀(w:World) (f:Value ->World ->Prop),f r w ->gg P τ op T x y (.int j m) (.int U m') w f) ->cv w0 X C0 P τ n o A k:=λr q h M I=>by
    refine dc h λA' s w C ρ l t=>?_;obtain⟨_,v,V,F⟩:=t.op l D ha z;obtain⟨_,u,W,g⟩:=t.op l E hb B;have F:RV C (.int j m) v:=F;have g:RV C (.int U m') u:=g;cases F;cases g;refine⟨r,λ_=>M C,λK kp N=>?_⟩;unfold aV;simp only[L];exact aW V (aW W (I w _ N))
   split at h
   ·replace h:=h.go
    obtain⟨r,H,h⟩:=h;exact d (.int j r) _ h (λC=>RV.int _ _) λw f e=>by simp only[gg,i];exact pL r H e
   ·replace h:=h.go
    obtain⟨r,H,h⟩:=h;exact d (.int j r) _ h (λC=>RV.int _ _) λw f e=>by simp only[gg,i];exact pL r H e
   ·replace h:=h.go
    obtain⟨r,H,h⟩:=h;exact d (.int j r) _ h (λC=>RV.int _ _) λw f e=>by simp only[gg,i];exact pL r H e
   ·replace h:=h.go
    exact d _ _ h (λC=>RV.bool _) λw f e=>by simp only[gg,i];exact e
   ·replace h:=h.go
    exact d _ _ h (λC=>RV.bool _) λw f e=>by simp only[gg,i];exact e
   ·replace h:=h.go
    exact d _ _ h (λC=>RV.bool _) λw f e=>by simp only[gg,i];exact e
   ·replace h:=h.go
    exact d _ _ h (λC=>RV.bool _) λw f e=>by simp only[gg,i];exact e
   ·replace h:=h.go
    exact d _ _ h (λC=>RV.bool _) λw f e=>by simp only[gg,i];exact e
   ·replace h:=h.go
    exact d _ _ h (λC=>RV.bool _) λw f e=>by simp only[gg,i];exact e
   ·split at h
    ·replace h:=h.go
     obtain⟨M,I,Y,h⟩:=h;cases U<;>first|exact absurd i Bool.false_ne_true|exact d _ _ h (λC=>RV.int _ _) λw f e=>by simp only[gg,mR'];exact Il M I Y e
    ·exact h.elim
   ·split at h
    ·replace h:=h.go
     obtain⟨M,I,Y,h⟩:=h;cases U<;>first|exact absurd i Bool.false_ne_true|exact d _ _ h (λC=>RV.int _ _) λw f e=>by simp only[gg,mR'];exact In M Y e
    ·exact h.elim
   ·exact h.elim
 ·rename_i m m'
  have d:∀(q:Bool),out n o k (.c (.p (.bool q))) ->(∀(w:World) (f:Value ->World ->Prop),f (.bool q) w ->gg P τ op T x y (.bool m) (.bool m') w f) ->cv w0 X C0 P τ n o A k:=λq h I=>by
   refine dc h λA' s w C ρ l t=>?_;obtain⟨_,v,V,F⟩:=t.op l D ha z;obtain⟨_,u,W,g⟩:=t.op l E hb B;have F:RV C (.bool m) v:=F;have g:RV C (.bool m') u:=g;cases F;cases g;refine⟨.bool q,λ_=>RV.bool _,λK kp N=>?_⟩;unfold aV;simp only[L];exact aW V (aW W (I w _ N))
  split at h
  ·rename_i hT
   split at h
   ·exact d _ h λw f e=>by simp only[gg,hT];exact e
   ·exact d _ h λw f e=>by simp only[gg,hT];exact e
   ·exact h.elim
  ·exact h.elim
 ·split at h
  ·rename_i Z a0
   replace h:=h.go
   obtain⟨r,O,h⟩:=h;refine dc h λA' s w C ρ l t=>?_;obtain⟨_,va,a3,Q⟩:=t.op l D ha z;obtain⟨_,vb,a4,R⟩:=t.op l E hb B;obtain⟨v,a5,H⟩:=O C ρ va vb w Q R;refine⟨v,λ_=>a5,λK kp N=>?_⟩;rcases cmp_of Z Q with ⟨us,rfl⟩|⟨a1,n1,c1,rfl⟩<;>rcases cmp_of a0 R with ⟨a6,rfl⟩|⟨a2,n2,c2,rfl⟩
   all_goals
    unfold aV;simp only[L];refine aW a3 (aW a4 ?_);simp only[gg];exact run H N
  ·exact h.elim
theorem IF{e:List (Nat×Value)}{x:Operand}{v:Value}{k:List Value ->Prop}(h:ev e x=some v)(a:k [v]):wvs e [x] k:=aW h a
theorem rz{e:List (Nat×Value)}{x y:Operand}{v u:Value}{k:List Value ->Prop}(h:ev e x=some v)(h2:ev e y=some u)(a:k [v,u]):wvs e [x,y] k:=aW h (aW h2 a)
theorem RV.slv{l:List (List PV)}{v:Value}(h:RV C (.sl l) v):∃a c,v= .slice a l.length c:=by
 cases h with
 |nil a c=>exact⟨a,c,rfl⟩
 |sl l d b o c f e g i j=>exact⟨_,c,rfl⟩
theorem IG{T:Nat}{x:Operand}{a:AV}{c:Call}(u:o.op= .call c)(hc:c.callee= .builtin .len)(D:c.args.toList=[x])(E:c.argTypes.toList=[T])(ha:ao A x=some a)(hl:Lv A a.refs)(h:xT τ n o A k T a):cv w0 X C0 P τ n o A k:=by
 have d:x∈av' o.op:=by rw[u];simp[av',D]
 unfold xT at h;split at h
 ·exact h.elim
 rename_i q F;have y:∀(m:Nat),out n o k (.c (.p (.int .i64 m))) ->(∀A' s w C ρ,Agr (iS' o.op) A A' (av' o.op) ->Rp w0 X C0 A' s w C ρ ->∃g b,ev s.e x=some (.slice g m b)) ->cv w0 X C0 P τ n o A k:=λm h i=>by
  refine dc h λA' s w C ρ r t=>?_;obtain⟨g,b,i⟩:=i A' s w C ρ r t;refine⟨.int .i64 m,λ_=>RV.int _ _,λK L H=>?_⟩;unfold aV;simp only[u,hc,D,E];refine IF i ?_;simp only[F];exact H
 split at h
 ·rename_i l
  refine y _ h λA' s w C ρ r t=>?_;obtain⟨_,v,i,f⟩:=t.op r d ha hl;obtain⟨g,b,rfl⟩:=RV.slv (show RV C (.sl l) v from f);exact⟨g,b,i⟩
 ·rename_i g m b
  refine y _ h λA' s w C ρ r t=>?_;obtain⟨_,v,i,f⟩:=t.op r d ha hl;have f:RV C (.raw (.slice g m b)) v:=f;cases f;exact⟨g,b,i⟩
 ·rename_i j
  split at h
  ·rename_i e M l z
   refine y _ h λA' s w C ρ r t=>?_;obtain⟨_,v,i,f⟩:=t.op r d ha hl;have f:v=ρ j:=f;subst f;obtain⟨I,B,_⟩:=t.ent j _ (r.at (pR u hc) d ha (by simp[AV.refs,AC.refs]) z);obtain⟨g,b,e,_⟩:=pO B.1;exact⟨g,b,by rw[i,e]⟩
  ·rename_i l z
   refine y _ h λA' s w C ρ r t=>?_;obtain⟨_,v,i,f⟩:=t.op r d ha hl;have f:v=ρ j:=f;subst f;have:=t.ent j _ (r.at (pR u hc) d ha (by simp[AV.refs,AC.refs]) z);obtain⟨g,b,e⟩:=RV.slv (show RV C (.sl l) (ρ j)from this);exact⟨g,b,by rw[i,e]⟩
  ·exact h.elim
 ·exact h.elim
def jX(ρ:Nat ->Value)(d:Nat)(v:Value):Nat ->Value:=λk=>if k=d then v else ρ k
theorem gj(ρ:Nat ->Value)(d:Nat)(v:Value):jX ρ d v d=v:=KX rfl
theorem rA{ρ:Nat ->Value}{d k:Nat}{v:Value}(h:k≠d):jX ρ d v k=ρ k:=KY h
theorem bI{α:Type}{d k:Nat}{x y:α}(h:look [(d,x)] k=some y):k=d/\y=x:=by
 rw[cI]at h;cases a:Nat.beq d k with
 |true=>rw[a]at h;exact⟨(QJ a).symm,(JB h).symm⟩
 |false=>rw[a]at h;cases h
theorem mF{α:Type}(d:Nat)(x:α)(l:List (Nat×α)):look ((d,x)::l) d=some x:=by
 rw[cI];have:Nat.beq d d=true:=Nat.beq_refl d;rw[this]
theorem Rp.fresh(h:Rp w0 X C0 A s w C ρ){d:Nat}(F:NoRef d A){v:Value}{x:SE}{wr:List (Nat×AV)}(c:Kp [] w w')(hb:∀g,blk v=some g ->w.heap.size<=g)(he:RE w0.heap.size X (A.upd wr [(d,x)]) C (jX ρ d v) w' d x)
  (H:∀t a,look wr t=some a ->∃u,get s'.e t=some u/\RA C (jX ρ d v) a u) (p:∀t,look wr t=none ->get s'.e t=get s.e t):Rp w0 X C0 (A.upd wr [(d,x)]) s' w' C (jX ρ d v):=by
 refine h.step [d] (λk c=>rA (by simpa using c)) (λk c=>(List.mem_singleton.1 c).symm▸F) (λk c=>⟨x,(List.mem_singleton.1 c).symm▸mF d x []⟩) (λk y f _=>.inl (by simp[(bI f).1])) c (λz I=>by cases I) (λ_ _ _ h=>h) (h.sub.tr c) (λb o v q=>.inl ⟨_,_,q⟩)
  (λk y f=>?_) (λk y g f M E=>?_) (λt a r _=>H t a r) p
 ·obtain⟨rfl,rfl⟩:=bI f
  exact he
 ·obtain⟨rfl,rfl⟩:=bI f
  rw[gj]at E;have K:=hb g E;refine⟨λj z i L B l=>?_,λb o u q e=>?_⟩
  ·rcases look_app_some L with D|⟨_,D⟩
   ·exact i (bI D).1
   ·rw[rA i]at l
    have:=(h.blk_lt D B l).1;omega
  ·have:=(h.sub b o u q).lt
   omega
end
def PV.nz(x:PV):PV:=match x with
 | .raw (.slice none 0 0)=>.sl []
 |x=>x
theorem RV.nz{C:Mem}{x:PV}{v:Value}(h:RV C x v):RV C x.nz v:=by
 unfold PV.nz;split
 ·cases h
  exact .nil none 0
 ·exact h
def pU(A:AS):AC ->Option PV
 | .p x=>some x.nz
 | .row k=>match look A.m k with
  |some (.rw _ _ l)=>some (.sl l)
  |some (.fz l)=>some (.sl l)
  |_=>none
 |_=>none
def tW(A:AS)(l:List AC):Option (List PV):=List.rec (motive:=λ_=>Option (List PV)) (some []) (λx _ ih=>match pU A x with
 |some y=>match ih with
  |some r=>some (y::r)
  |none=>none
 |none=>none) l
def oS(A:AS):AV ->Option PV
 | .c x=>pU A x
 | .agg cs=>match tW A cs with
  |some l=>some (.agg l)
  |none=>none
 | .tp _=>none
def bJ(A:AS)(ks:List Nat):List (Nat×SE):=List.rec (motive:=λ_=>List (Nat×SE)) [] (λk _ ih=>match look A.m k with
 |some (.rw _ _ l)=>(k,.fz l)::ih
 |_=>ih) ks
theorem CH(A:AS)(k:Nat)(r:List Nat):bJ A (k::r)=match look A.m k with
 |some (.rw _ _ l)=>(k,.fz l)::bJ A r
 |_=>bJ A r:=rfl
theorem lB{A:AS}:∀{ks:List Nat} {k:Nat} {x:SE},look (bJ A ks) k=some x ->k∈ks/\∃e sz l,look A.m k=some (.rw e sz l)/\x= .fz l
 |[],k,x,h=>by cases h
 |j::r,k,x,h=>by
  rw[CH]at h;split at h
  ·rename_i e sz l d
   rw[cI]at h;cases a:Nat.beq j k with
   |true=>
    rw[a]at h;obtain rfl:=QJ a;exact⟨Ud,e,sz,l,d,(JB h).symm⟩
   |false=>
    rw[a]at h;obtain⟨b,c⟩:=lB (ks:=r) h;exact⟨by simp[b],c⟩
  ·obtain⟨b,c⟩:=lB (ks:=r) h
   exact⟨by simp[b],c⟩
theorem xV{A:AS}:∀{ks:List Nat} {k e sz:Nat} {l:List (List PV)},k∈ks ->look A.m k=some (.rw e sz l) ->look (bJ A ks) k=some (.fz l)
 |[],k,e,sz,l,h,_=>by cases h
 |j::r,k,e,sz,l,h,c=>by
  rw[CH]
  by_cases a:j=k
  ·subst a
   simp only[c];exact mF _ _ _
  ·have hr:k∈r:=by
    rcases List.mem_cons.1 h with h|h
    ·exact absurd h.symm a
    ·exact h
   have d:=xV (ks:=r) hr c;have b:Nat.beq j k=false:=by
    cases b:Nat.beq j k with
    |true=>exact absurd (QJ b) a
    |false=>rfl
   split
   ·rw[cI,b]
    exact d
   ·exact d
section
variable{w0:World}{X:List Nat}{C0:Mem}{P:Program}{τ:Tau}{n:Nat}{o:Oper}{A A':AS}{k:Kk}{s s':St}{w w':World}{C C':Mem}{ρ:Nat ->Value}
theorem IH{lo e sz:Nat}{l:List (List PV)}{v:Value}{css:List (List Value)}(F:w.ownsRow lo e sz v l.length css.flatten)(hsz:∀x∈l,x.length=sz)(hl:css.length=l.length)
  (hc:∀(i:Nat) (us:List Value) x,css[i]?=some us ->l[i]?=some x ->us.length=sz/\∀(j:Nat) y u,x[j]?=some y ->us[j]?=some u ->u.oneCell'=true/\RV C y u) (H:∀g b u,blk v=some g ->Cl w.heap g b u ->C g b u):RV C (.sl l) v:=by
 have d:∀us∈css,us.length=sz:=λus t=>by
  obtain⟨q,E⟩:=JH t;have I:=aM E;exact(hc q us _ E (gE)).1
 obtain⟨a,f,rfl,_,p,K⟩:=pO F;rcases K with L|⟨g,rfl,_,_,z⟩
 ·obtain rfl:l=[]:=List.length_eq_zero_iff.1 L
  exact .nil a f
 ·refine .sl l sz g 0 f (λi j=>(css.getD i []).getD j undef) hsz p (λi j x y r B=>?_) λi j x y r B=>?_
  all_goals
   have O:=aM r;have c:css[i]?=some css[i]:=gE;obtain⟨Q,M⟩:=hc i _ x c r;have R:=aM B;have N:=hsz x (JQ r);have D:(css[i])[j]?=some (css[i])[j]:=gE;have e:(css.getD i []).getD j undef=(css[i])[j]:=by simp[QK,c,D]
   rw[e]
  ·rw[KW]
   exact H g _ _ rfl (z _ _ (pQ css d i j _ _ c D))
  ·exact(M j y _ B D).2
theorem Rp.frz(h:Rp w0 X C0 A' s w C ρ)(ks:List Nat)(F:∀k∈ks,look A'.m k=look A.m k):∃C',Rp w0 X C0 (A'.upd [] (bJ A ks)) s w C' ρ/\(∀b o v,C b o v ->C' b o v)/\∀k∈ks,∀l,((∃e sz,look A.m k=some (.rw e sz l)) \/look A.m k=some (.fz l)) ->RV C' (.sl l) (ρ k):=by
 let C':Mem:=λb o v=>C b o v \/(Cl w.heap b o v/\∃k∈ks,∃e sz l,look A.m k=some (.rw e sz l)/\blk (ρ k)=some b)
 have H:∀b o v,C b o v ->C' b o v:=λ_ _ _ h=>.inl h;have q:∀k∈ks,∀e sz l,look A.m k=some (.rw e sz l) ->RV C' (.sl l) (ρ k):=λk c e sz l p=>by
  obtain⟨K,r,B,Y,L⟩:=h.ent k _ (by rw[F k c];exact p);exact IH r.1 B Y (λi M x N d=>⟨(L i M x N d).1,λj y u U V=>⟨((L i M x N d).2 j y u U V).1,((L i M x N d).2 j y u U V).2.mono H⟩⟩) λg b u I O=>.inr ⟨O,k,c,e,sz,l,p,I⟩
 refine⟨C',?_,H,λk c l D=>?_⟩
 ·refine h.step (wr:=[]) [] (λ_ _=>rfl) (λk c=>by cases c) (λk c=>by cases c) (λk x d Z=>?_) (Kp.refl [] w) (λz hz=>by cases hz) H (λb o v f=>?_) (λb o v f=>?_) (λk x d=>?_) (λk x g d p=>?_) (λt a ht=>by cases ht) (λ_ _=>rfl)
  ·obtain⟨r,e,sz,l,B,_⟩:=lB d
   exact .inr ⟨_,by rw[F k r];exact B,rfl⟩
  ·rcases f with f|f
   ·exact h.sub b o v f
   ·exact f.1
  ·rcases f with f|⟨_,k,c,e,sz,l,p,I⟩
   ·exact .inl ⟨_,_,f⟩
   ·have E:look A'.m k=some (.rw e sz l):=by rw[F k c];exact p
    refine .inr ⟨?_,λj x W Q R S=>?_⟩
    ·obtain⟨K,ho,_⟩:=h.ent k _ E
     exact ho.2 b I
    ·have T:j≠k:=λe1=>by
      subst e1;rw[xV c p]at W;cases W
     exact h.sep j k x _ b T Q R E rfl S I
  ·obtain⟨r,e,sz,l,B,rfl⟩:=lB d
   exact q k r e sz l B
  ·obtain⟨_,e,sz,l,_,rfl⟩:=lB d
   cases p
 ·rcases D with ⟨e,sz,D⟩|D
  ·exact q k c e sz l D
  ·have:=h.ent k _ (by rw[F k c];exact D)
   exact RV.mono H this
theorem xW{c:AC}{v:Value}{x:PV}(a:pU A c=some x)(h:RC C ρ c v)(hr:∀k∈c.refs,∀l,((∃e sz,look A.m k=some (.rw e sz l)) \/look A.m k=some (.fz l)) ->RV C (.sl l) (ρ k)):RV C x v:=by
 cases c with
 |p y=>
  obtain rfl:=JB a;exact RV.nz h
 |row k=>
  have h:v=ρ k:=h;subst h;simp only[pU]at a;split at a
  ·rename_i e sz l b
   obtain rfl:=JB a;exact hr k (by simp[AC.refs]) l (.inl ⟨e,sz,b⟩)
  ·rename_i l b
   obtain rfl:=JB a;exact hr k (by simp[AC.refs]) l (.inr b)
  ·cases a
 |_=>cases a
theorem oP':∀{cs:List AC} {xs:List PV},tW A cs=some xs ->xs.length=cs.length/\∀(i:Nat) c,cs[i]?=some c ->∃x,xs[i]?=some x/\pU A c=some x
 |[],xs,h=>by
  obtain rfl:=JB h;exact⟨rfl,λi c e=>by simp at e⟩
 |c::r,xs,h=>by
  have h:(match pU A c with
   |some y=>match tW A r with
    |some r=>some (y::r)
    |none=>none
   |none=>none)=some xs:=h
  split at h
  ·rename_i y f
   split at h
   ·rename_i l a
    obtain rfl:=JB h;obtain⟨g,j⟩:=oP' a;refine⟨by simp[g],λi d b=>?_⟩;cases i with
    |zero=>
     obtain rfl:=JB b;exact⟨y,rfl,f⟩
    |succ i=>exact j i d b
   ·cases h
  ·cases h
theorem xX{a:AV}{v:Value}{x:PV}(b:oS A a=some x)(h:RA C ρ a v)(hr:∀k∈a.refs,∀l,((∃e sz,look A.m k=some (.rw e sz l)) \/look A.m k=some (.fz l)) ->RV C (.sl l) (ρ k)):RV C x v:=by
 cases a with
 |c y=>exact xW b h hr
 |agg f=>
  simp only[oS]at b;split at b
  ·rename_i l p
   obtain rfl:=JB b;obtain⟨q,rfl,E,r⟩:=h;obtain⟨F,t⟩:=oP' p;refine RV.agg l q Uo λi y u z j=>?_;have H:=aM j;have g:f[i]?=some f[i]:=gE;obtain⟨I,d,B⟩:=t i _ g;rw[z]at d;obtain rfl:=JB d;exact xW B (r i _ u g j) λk D=>hr k (jW (JQ g) D)
  ·cases b
 |tp f=>cases b
end
structure rB(C:Mem)(w:World)(C':Mem)(w':World):Prop where
 sub:Sub C' w'
 c:∀b o v,C b o v ->C' b o v
 n:∀b o v,C' b o v ->Hb C b \/w.heap.size<=b
 kp:Kp [] w w'
def cZ(C:Mem)(ps:List PV)(vs:List Value):Prop:=vs.length=ps.length/\∀(i:Nat) x v,ps[i]?=some x ->vs[i]?=some v ->RV C x v
def PV.flat:PV ->Bool
 | .int _ _=>true
 | .bool _=>true
 |_=>false
theorem RV.flat{C D:Mem}{r:PV}{v:Value}(a:r.flat=true)(h:RV C r v):RV D r v:=by
 cases h with
 |int j m=>exact .int j m
 |bool b=>exact .bool b
 |_=>cases a
def cL(A:AS)(l:List AV):Option (List PV):=List.rec (motive:=λ_=>Option (List PV)) (some []) (λx _ ih=>match oS A x with
 |some y=>match ih with
  |some r=>some (y::r)
  |none=>none
 |none=>none) l
def refsA(l:List AV):List Nat:=List.rec (motive:=λ_=>List Nat) [] (λx _ ih=>x.refs++ih) l
def rkOf(A:AS)(mv:Nat)(l:List Nat):List Nat:=match mv with
 |1=>[]
 |2=>deepK A l
 |_=>l
def dk(l:List Nat):List (Nat×SE):=l.map λk=>(k,.dead)
theorem xY{l:List Nat}{k:Nat}{x:SE}(h:look (dk l) k=some x):x= .dead:=by
 obtain⟨p,_,e⟩:=List.mem_map.1 (dj h);injection e with _ e
 exact e.symm
theorem II{l:List Nat}{k:Nat}(h:k∈l):look (dk l) k=some .dead:=by
 induction l with
 |nil=>cases h
 |cons j r b=>
  show look ((j,SE.dead)::dk r) k=_;rw[cI];cases a:Nat.beq j k with
  |true=>rfl
  |false=>
   rcases List.mem_cons.1 h with rfl|h
   ·rw[Nat.beq_refl]at a;cases a
   ·exact b h
def xZ(w0:World)(X:List Nat)(C0:Mem)(P:Program)(τ:Tau)(n:Nat)(o:Oper)(A:AS)(ch:List PanicEntry)(ks:List Nat):Prop:=
 ∀A' s w (K:St ->World ->Prop) (kp:List PanicEntry ->St ->World ->Prop),Agr (iS' o.op) A A' (av' o.op) ->Rep w0 X C0 A' s w ->(∀w',Rep w0 X C0 (A'.upd [] (dk ks)) s w' ->kp ch s w') ->aV P τ n o s w K kp
def pV(w0:World)(X:List Nat)(C0:Mem)(P:Program)(τ:Tau)(n:Nat)(o:Oper)(A:AS)(k:Kk)(pn:List PanicEntry ->List Nat ->Prop):Prop:=cv w0 X C0 P τ n o A k \/∃ch ks,pn ch ks/\xZ w0 X C0 P τ n o A ch ks
theorem Rp.kill{w0 w w':World}{X Z:List Nat}{C0 C:Mem}{A:AS}{s:St}{ρ:Nat ->Value}(h:Rp w0 X C0 A s w C ρ){l:List Nat}(c:Kp Z w w')(q:∀z∈Z,∃k∈l,∃x,look A.m k=some x/\x.mut=true/\blk (ρ k)=some z):Rep w0 X C0 (A.upd [] (dk l)) s w':=by
 refine⟨C,ρ,h.step (wr:=[]) [] (λ_ _=>rfl) (λk c=>by cases c) (λk c=>by cases c) (λk x d r=>by rw[xY d]at r;cases r) c (λz f=>?_) (λ_ _ _ h=>h) (λb o v e=>(h.sub b o v e).kp c λf=>?_) (λb o v e=>.inl ⟨_,_,e⟩) (λk x d=>by rw[xY d];exact VQ) (λk x g d u=>by rw[xY d]at u;cases u) (λt a y=>by cases y) (λ_ _=>rfl)⟩
 ·obtain⟨k,c,x,i,j,p⟩:=q z f
  exact⟨k,_,x,II c,i,j,p⟩
 ·obtain⟨k,c,x,i,j,p⟩:=q b f
  exact h.off k x b b o v i j p e rfl
section
variable{w0:World}{X:List Nat}{C0:Mem}{P:Program}{τ:Tau}{n:Nat}{o:Oper}{A A':AS}{k:Kk}{s s':St}{w w':World}{C C':Mem}{ρ:Nat ->Value}
theorem CI{l:List AV}{x:AV}(h:x∈l){k:Nat}(a:k∈x.refs):k∈refsA l:=by
 induction l with
 |nil=>cases h
 |cons y r b=>
  show k∈y.refs++refsA r;rcases List.mem_cons.1 h with rfl|h
  ·exact QW _ a
  ·exact QV _ (b h)
theorem x5{l:List AV}{k:Nat}(a:k∈refsA l):∃x∈l,k∈x.refs:=by
 induction l with
 |nil=>cases a
 |cons y r c=>
  have a:k∈y.refs++refsA r:=a;rcases List.mem_append.1 a with h|h
  ·exact⟨y,Ud,h⟩
  ·obtain⟨x,d,b⟩:=c h
   exact⟨x,by simp[d],b⟩
theorem mY':∀{l:List Operand} {b:List AV ->Prop},ry A l b ->∃aes,aes.length=l.length/\b aes/\∀(i:Nat) x,l[i]?=some x ->∃a,aes[i]?=some a/\ao A x=some a/\Lv A a.refs
 |[],b,h=>⟨[],rfl,h,λi x d=>by simp at d⟩
 |x::r,b,h=>by
  obtain⟨a,h1,h2,h3⟩:=bM (show rd A x _ from h);obtain⟨aes,e,f,g⟩:=mY' (l:=r) h3;refine⟨a::aes,by simp[e],f,λi y c=>?_⟩;cases i with
  |zero=>
   obtain rfl:=JB c;exact⟨a,rfl,h1,h2⟩
  |succ i=>exact g i y c
theorem oT{e:List (Nat×Value)}:∀{l:List Operand} {vs:List Value} {a:List Value ->Prop},vs.length=l.length ->(∀(i:Nat) x,l[i]?=some x ->∃v,vs[i]?=some v/\ev e x=some v) ->a vs ->wvs e l a
 |[],vs,a,hl,_,b=>by
  obtain rfl:vs=[]:=List.length_eq_zero_iff.1 hl;exact b
 |x::r,vs,a,hl,c,b=>by
  match vs,hl with
  |v::vs,hl=>
   obtain⟨u,d,f⟩:=c 0 x rfl;obtain rfl:=JB d;exact aW f (oT (l:=r) (by simpa using hl) (λi y g=>c (i+1) y g) b)
theorem Rp.ops{mv:Nat}(h:Rp w0 X C0 A' s w C ρ){l l':List Operand}(j:Agr mv A A' l')(hl:∀x∈l,x∈l'){aes:List AV}(c:aes.length=l.length)(has:∀(i:Nat) x,l[i]?=some x ->∃a,aes[i]?=some a/\ao A x=some a/\Lv A a.refs):
  ∃vs:List Value,vs.length=l.length/\(∀(i:Nat) x,l[i]?=some x ->∃v,vs[i]?=some v/\ev s.e x=some v)/\∀(i:Nat) a v,aes[i]?=some a ->vs[i]?=some v ->RA C ρ a v:=by
 induction l generalizing aes with
 |nil=>exact⟨[],rfl,λi x p=>by simp at p,λi a v I e=>by simp at e⟩
 |cons x r q=>
  match aes,c with
  |a::aes,c=>
   obtain⟨K,t,z,B⟩:=has 0 x rfl;obtain rfl:=JB t;obtain⟨_,v,e,D⟩:=h.op j (hl x Ud) z B;obtain⟨vs,E,F,H⟩:=q (λy d=>hl y (by simp[d])) (aes:=aes) (by simpa using c) λi y d=>has (i+1) y d;refine⟨v::vs,by simp[E],λi y d=>?_,λi b u f g=>?_⟩
   ·cases i with
    |zero=>
     obtain rfl:=JB d;exact⟨v,rfl,e⟩
    |succ i=>exact F i y d
   ·cases i with
    |zero=>
     obtain rfl:=JB f;obtain rfl:=JB g;exact D
    |succ i=>exact H i b u f g
theorem oS':∀{aes:List AV} {ps:List PV},cL A aes=some ps ->ps.length=aes.length/\∀(i:Nat) a,aes[i]?=some a ->∃x,ps[i]?=some x/\oS A a=some x
 |[],ps,h=>by
  obtain rfl:=JB h;exact⟨rfl,λi c f=>by simp at f⟩
 |c::r,g,h=>by
  have h:(match oS A c with
   |some y=>match cL A r with
    |some r=>some (y::r)
    |none=>none
   |none=>none)=some g:=h
  split at h
  ·rename_i y j
   split at h
   ·rename_i q b
    obtain rfl:=JB h;obtain⟨l,p⟩:=oS' b;refine⟨by simp[l],λi d e=>?_⟩;cases i with
    |zero=>
     obtain rfl:=JB e;exact⟨y,rfl,j⟩
    |succ i=>exact p i d e
   ·cases h
  ·cases h
theorem NoRef.frz{d:Nat}(h:NoRef d A')(ks:List Nat):NoRef d (A'.upd [] (bJ A ks)):=
 ⟨h.e,λj x b=>by
  rcases look_app_some b with a|⟨_,a⟩
  ·obtain⟨_,_,_,_,_,rfl⟩:=lB a
   simp[SE.refs]
  ·exact h.m j x a,λx b=>by
  rcases look_app_some b with a|⟨_,a⟩
  ·obtain⟨_,_,_,_,_,rfl⟩:=lB a
   rfl
  ·exact h.un x a⟩
end
def lC(A:AS):AC ->Bool
 | .p x=>x.one
 | .row k=>match look A.m k with
  |some (.rw _ _ _)=>true
  |some (.fz _)=>true
  |some (.ob _ _)=>true
  |_=>false
 | .rv _ _=>false
 | .cl _=>false
 |_=>true
def bC(A:AS)(l:List AC):Bool:=List.rec (motive:=λ_=>Bool) true (λx _ ih=>match lC A x with
 |true=>ih
 |false=>false) l
def nP(A:AS)(a:AV):Option (List AC):=match a with
 | .agg cs=>match bC A cs with
  |true=>some cs
  |false=>none
 | .c (.p (.agg ps))=>match bC A (ps.map .p)with
  |true=>some (ps.map .p)
  |false=>none
 | .c x=>match lC A x with
  |true=>some [x]
  |false=>none
 | .tp _=>none
def ir(v:Value):AC:=match v with
 | .int k m=>.p (.int k m)
 | .bool b=>.p (.bool b)
 |v=>.p (.raw v)
def Ax':List AC ->Nat ->List AC ->List AC
 |cs,_,[]=>cs
 |cs,o,v::r=>Ax' (cs.set o v) (o+1) r
def mG(A:AS)(place:Nat ->Option (Nat×Nat)):List AC ->List (Nat×AV) ->Option (List AC)
 |cs,[]=>some cs
 |cs,(i,a)::r=>match place i,nP A a with
  |some (o,sz),some ds=>match Nat.beq ds.length sz,Nat.ble (o+sz) cs.length with
   |true,true=>mG A place (Ax' cs o ds) r
   |_,_=>none
  |_,_=>none
section
variable(P:Program)(τ:Tau)(n:Nat)(o:Oper)(A:AS)(k:Kk)
def tX(T:Nat)(cs:List AC):Prop:=match o.dst with
 |some d=>match Nat.ble (d+1) n with
  |true=>k [(d,.c (.ptr d 0))] [(d,.st 0 T cs)] [d]
  |false=>False
 |none=>False
def x6(T:Nat):Prop:=match τ.zero T with
 |some z=>match bC A (z.map ir)with
  |true=>tX n o k T (z.map ir)
  |false=>False
 |none=>False
def x7(T:Nat)(a:AV):Prop:=match nP A a with
 |some cs=>tX n o k T cs
 |none=>False
def x8(T:Nat)(aes:List (Nat×AV)):Prop:=match look τ.tab T with
 |some (fs,z)=>match mG A (ro fs) ((z.map zc).map ir) aes with
  |some cs=>out n o k (.agg cs)
  |none=>False
 |none=>False
def x9(T:Nat)(a b:AV):Prop:=match a with
 | .c (.ptr j off)=>match look A.m j with
  |some (.st g T' cs)=>match look τ.ones T with
   |some _=>match b with
    | .c c=>match lC A c,Nat.ble (off+1) cs.length with
     |true,true=>fin n o.dst (.c (.p (.raw undef))) λwr=>k wr [(j,.st g T' (cs.set off c))] []
     |_,_=>False
    |_=>False
   |none=>match look τ.tab T,nP A b,b.isAgg with
    |some (_,z),some ds,true=>match Nat.beq ds.length z.length,Nat.beq ds.length cs.length,off with
     |true,true,0=>fin n o.dst (.c (.p (.raw undef))) λwr=>k wr [(j,.st g T' ds)] []
     |_,_,_=>False
    |_,_,_=>False
  |_=>False
 |_=>False
end
section
variable{w0:World}{X:List Nat}{C0:Mem}{P:Program}{τ:Tau}{n:Nat}{o:Oper}{A A':AS}{k:Kk}{s s':St}{w w':World}{C C':Mem}{ρ:Nat ->Value}
def RL(C:Mem)(ρ:Nat ->Value)(cs:List AC)(us:List Value):Prop:=us.length=cs.length/\∀(i:Nat) c u,cs[i]?=some c ->us[i]?=some u ->u.oneCell'=true/\RC C ρ c u
theorem ya(h:Rp w0 X C0 A' s w C ρ){c:AC}(r:∀k∈c.refs,look A'.m k=look A.m k)(hc:lC A c=true){v:Value}(d:RC C ρ c v):v.oneCell'=true:=by
 cases c with
 |p x=>exact RV.one d hc
 |row j=>
  have d:v=ρ j:=d;subst d;simp only[lC]at hc;split at hc
  ·rename_i e y l q
   obtain⟨z,B,_⟩:=h.ent j _ (by rw[r j (by simp[AC.refs])];exact q);obtain⟨a,t,e,_⟩:=pO B.1;rw[e]
   rfl
  ·rename_i l q
   have:=h.ent j _ (by rw[r j (by simp[AC.refs])];exact q);obtain⟨a,t,e⟩:=RV.slv (show RV C (.sl l) (ρ j)from this);rw[e]
   rfl
  ·rename_i g Q q
   obtain⟨b,_,e,_⟩:=h.ent j _ (by rw[r j (by simp[AC.refs])];exact q);rw[e]
   rfl
  ·cases hc
 |ptr j o=>
  obtain⟨b,_,rfl⟩:=d
  rfl
 |ep E o=>
  obtain⟨b,F,f,rfl,_⟩:=d
  rfl
 |rp j y i o=>
  obtain⟨b,m,c,_,rfl⟩:=d
  rfl
 |fn f D=>
  obtain rfl:=d
  rfl
 |fr u f D=>
  obtain rfl:=d.2
  rfl
 |rv u j=>cases hc
 |cl l=>cases hc
theorem lH':∀{l:List AC} {c:AC},bC A l=true ->c∈l ->lC A c=true
 |x::r,c,h,hc=>by
  have h:(match lC A x with
   |true=>bC A r
   |false=>false)=true:=h
  split at h
  ·rename_i a
   rcases List.mem_cons.1 hc with rfl|hc
   ·exact a
   ·exact lH' h hc
  ·cases h
theorem IJ{v:Value}(h:v.oneCell'=true):v.cells= #[v]:=by
 cases v<;>first|rfl|cases h
theorem tY(h:Rp w0 X C0 A' s w C ρ){a:AV}(D:∀k∈a.refs,look A'.m k=look A.m k){cs:List AC}(b:nP A a=some cs){v:Value}(q:RA C ρ a v):RL C ρ cs v.cells.toList/\∀k∈refsL cs,k∈a.refs:=by
 have one:∀x:AC,a= .c x ->lC A x=true ->cs=[x] ->RL C ρ cs v.cells.toList/\∀k∈refsL cs,k∈a.refs:=λx e I K=>by
  subst e;subst K;have t:=ya h D I q;rw[IJ t];refine⟨⟨rfl,λi c u d g=>?_⟩,λk j=>by simpa[refsL,AV.refs]using j⟩
  match i,d,g with
  |0,d,g=>
   obtain rfl:=JB d;obtain rfl:=JB g;exact⟨t,q⟩
 unfold nP at b;split at b
 ·rename_i M
  split at b
  ·rename_i f
   obtain rfl:=JB b;obtain⟨E,rfl,t,y⟩:=q;exact⟨⟨t,λi c u d g=>⟨ya h (λk j=>D k (jW (JQ d) j)) (lH' f (JQ d)) (y i c u d g),y i c u d g⟩⟩,λk j=>j⟩
  ·cases b
 ·rename_i F
  split at b
  ·rename_i f
   obtain rfl:=JB b;have q:RV C (.agg F) v:=q;have B:∀l:List PV,refsL (l.map .p)=[]:=λl=>by
    induction l with
    |nil=>rfl
    |cons x r L=>exact L
   cases q with
   |agg _ E t y=>
    refine⟨⟨by show E.length=_;simpa using t,λi c u d g=>?_⟩,λk j=>by rw[B]at j;cases j⟩;rw[JX]at d;cases z:F[i]? with
    |none=>rw[z]at d;cases d
    |some p=>
     rw[z]at d;obtain rfl:=JB d;have H:=y i p u z g;exact⟨RV.one H (lH' f (QD (JQ z))),H⟩
  ·cases b
 ·rename_i x _
  split at b
  ·rename_i f
   exact one x rfl f (JB b).symm
  ·cases b
 ·cases b
theorem tZ{z:List Value}(f:bC A (z.map ir)=true):RL C ρ (z.map ir) z:=by
 refine⟨Ud,λi c u d e=>?_⟩;rw[JX,e]at d;obtain rfl:=JB d;have a:=lH' f (QD (JQ e));have b:RC C ρ (ir u) u:=by cases u<;>first|exact RV.int _ _|exact RV.bool _|exact RV.raw _
 refine⟨?_,b⟩;have:∃x,ir u= .p x:=by cases u<;>exact⟨_,rfl⟩
 obtain⟨x,g⟩:=this;rw[g]at a b;exact RV.one b a
theorem CJ(z:List Value):refsL (z.map ir)=[]:=by
 induction z with
 |nil=>rfl
 |cons x r a=>cases x<;>exact a
theorem NoRef.op{d:Nat}(h:NoRef d A'){x:Operand}{a:AV}(ha:ao A' x=some a):d ∉ a.refs:=by
 cases x with
 |tmp t=>exact h.e t a ha
 |const v=>
  obtain rfl:=JB ha;cases v<;>simp[cst,AV.refs,AC.refs]
 |func f=>
  obtain rfl:=JB ha;simp[AV.refs,AC.refs]
 |global g=>cases ha
theorem CK{T:Nat}{cs:List AC}(h:tX n o k T cs)
  (H:∀A' s w C ρ,Agr (iS' o.op) A A' (av' o.op) ->Rp w0 X C0 A' s w C ρ ->∃us,RL C ρ cs us/\(∀d,NoRef d A' ->d ∉ refsL cs)/\∀(K:St ->World ->Prop) (kp:List PanicEntry ->St ->World ->Prop),(EvNew w T us λb w'=>put n s o.dst (.pointer (some ⟨b,0,none⟩)) λs'=>K s' w') ->aV P τ n o s w K kp):cv w0 X C0 P τ n o A k:=by
 unfold tX at h;split at h
 ·rename_i d D
  split at h
  ·rename_i E
   refine⟨_,_,_,h,λA' s w K kp F q l I=>?_⟩;obtain⟨C,ρ,l⟩:=l;obtain⟨us,⟨L,z⟩,f,r⟩:=H A' s w C ρ F l;have q:=q d Ud;refine r K kp (jC λb w' M N O v=>?_);rw[D];unfold put;simp only[E];obtain⟨e,S⟩:=s;have f:=f d q;refine I _ _ ⟨C,jX ρ d (.pointer (some ⟨b,0,none⟩)),l.fresh q v (λg Q=>?_) ⟨b,us,gj _ _ _,N,.inl ⟨rfl,?_⟩,L,λi c u x B=>⟨(z i c u x B).1,λ_=>RC.eqv (z i c u x B).2 λj R=>rA λe=>f (e▸jW (JQ x) R)⟩⟩ (λt a p=>?_) λt p=>?_⟩ rfl
   ·obtain rfl:b=g:=JB Q
    omega
   ·rw[M]
    exact l.kp.size
   ·obtain⟨rfl,rfl⟩:=bI p
    refine⟨.pointer (some ⟨b,0,none⟩),?_,b,gj _ _ _,rfl⟩;rw[eV,Nat.beq_refl]
   ·rw[cI]at p
    rw[eV];cases y:Nat.beq d t with
    |true=>rw[y]at p;cases p
    |false=>rfl
  ·exact h.elim
 ·exact h.elim
theorem IK{T:Nat}(b:o.op= .alloc T)(h:x6 τ n o A k T):cv w0 X C0 P τ n o A k:=by
 unfold x6 at h;split at h
 ·rename_i z c
  split at h
  ·rename_i a
   refine CK h λA' s w C ρ f g=>⟨z,tZ a,λd _=>by rw[CJ];simp,λK i e=>?_⟩
   unfold aV;simp only[b,c];exact e
  ·exact h.elim
 ·exact h.elim
theorem IL{T:Nat}{x:Operand}{a:AV}(c:o.op= .box T x)(ha:ao A x=some a)(hl:Lv A a.refs)(h:x7 n o A k T a):cv w0 X C0 P τ n o A k:=by
 have b:x∈av' o.op:=by rw[c];simp[av']
 unfold x7 at h;split at h
 ·rename_i u e
  refine CK h λA' s w C ρ f g=>?_;obtain⟨_,v,i,j⟩:=g.op f b ha hl;obtain⟨l,p⟩:=tY g (f.m (by rw[c];rfl) x b a ha) e j;refine⟨_,l,λd q r=>q.op (x:=x) (by rw[f.e x b];exact ha) (p d r),λK y t=>?_⟩;unfold aV;simp only[c];exact aW i t
 ·exact h.elim
theorem yI':∀{ds:List AC} {vs:List Value} {cs:List AC} {us:List Value} {o:Nat},RL C ρ ds vs ->RL C ρ cs us ->RL C ρ (Ax' cs o ds) (lay us o vs)
 |[],vs,cs,us,o,h,h2=>by
  obtain rfl:vs=[]:=List.length_eq_zero_iff.1 h.1;exact h2
 |d::r,vs,cs,us,o,h,h2=>by
  match vs,h with
  |v::vs,h=>
   simp only[Ax',lay];refine yI' (ds:=r) (vs:=vs) ⟨by simpa using h.1,λi c u a b=>h.2 (i+1) c u a b⟩ ⟨by simpa using h2.1,λi c u a b=>?_⟩;rw[List.getElem?_set]at a b
   by_cases e:o=i
   ·subst e
    simp only[if_true]at a b;split at a
    ·split at b
     ·obtain rfl:=JB a
      obtain rfl:=JB b;exact h.2 0 _ _ rfl rfl
     ·cases b
    ·cases a
   ·rw[KY e]at a b
    exact h2.2 i c u a b
theorem yb{b:Nat ->Option (Nat×Nat)}:∀{aes:List (Nat×AV)} {vs:List (Nat×Value)} {cs ds:List AC} {us:List Value},mG A b cs aes=some ds ->vs.length=aes.length ->(∀(i:Nat) p q,aes[i]?=some p ->vs[i]?=some q ->p.1=q.1/\∀es,nP A p.2=some es ->RL C ρ es q.2.cells.toList) ->RL C ρ cs us ->
  ∃c,my b us vs=some c/\RL C ρ ds c
 |[],vs,cs,ds,us,h,hl,f,hr=>by
  obtain rfl:vs=[]:=List.length_eq_zero_iff.1 hl;obtain rfl:=JB h;exact⟨us,rfl,hr⟩
 |(i,a)::r,vs,cs,ds,us,h,hl,f,hr=>by
  match vs,hl with
  |(j,v)::vs,hl=>
   obtain⟨e,d⟩:=f 0 _ _ rfl rfl;obtain rfl:i=j:=e;simp only[mG]at h;split at h
   ·rename_i z g es l t
    split at h
    ·rename_i u B
     have u:=QJ u;have d:=d es t;have x:=yI' (o:=z) d hr;obtain⟨c,q1,D⟩:=yb (aes:=r) (vs:=vs) h (by simpa using hl) (λm p q y E=>f (m+1) p q y E) x;refine⟨c,?_,D⟩;simp only[my,l];have F:Nat.beq v.cells.toList.length g=true:=by rw[d.1,u];exact Nat.beq_refl g
     have H:Nat.ble (z+g) us.length=true:=by rw[hr.1];exact B
     simp only[F,H];exact q1
    ·cases h
   ·cases h
theorem sP':∀{l:List (Nat×Operand)} {b:List (Nat×AV) ->Prop},xG A l b ->∃aes,aes.length=l.length/\b aes/\∀(i:Nat) x,l[i]?=some x ->∃a,aes[i]?=some (x.1,a)/\ao A x.2=some a/\Lv A a.refs
 |[],b,h=>⟨[],rfl,h,λi x d=>by simp at d⟩
 |x::r,b,h=>by
  obtain⟨a,h1,h2,h3⟩:=bM (show rd A x.2 _ from h);obtain⟨aes,e,f,g⟩:=sP' (l:=r) h3;refine⟨(x.1,a)::aes,by simp[e],f,λi y c=>?_⟩;cases i with
  |zero=>
   obtain rfl:=JB c;exact⟨a,rfl,h1,h2⟩
  |succ i=>exact g i y c
theorem yc{e:List (Nat×Value)}:∀{l:List (Nat×Operand)} {vs:List (Nat×Value)} {a:List (Nat×Value) ->Prop},vs.length=l.length ->(∀(i:Nat) x,l[i]?=some x ->∃v,vs[i]?=some (x.1,v)/\ev e x.2=some v) ->a vs ->wvp e l a
 |[],vs,a,hl,_,b=>by
  obtain rfl:vs=[]:=List.length_eq_zero_iff.1 hl;exact b
 |x::r,vs,a,hl,c,b=>by
  match vs,hl with
  |v::vs,hl=>
   obtain⟨u,d,f⟩:=c 0 x rfl;obtain rfl:=JB d;exact aW f (yc (l:=r) (by simpa using hl) (λi y g=>c (i+1) y g) b)
theorem Rp.opp{mv:Nat}(e:Nat.beq mv 1=false)(h:Rp w0 X C0 A' s w C ρ){l:List (Nat×Operand)}{l':List Operand}(g:Agr mv A A' l')(hl:∀x∈l,x.2∈l'){aes:List (Nat×AV)}(c:aes.length=l.length)(has:∀(i:Nat) x,l[i]?=some x ->∃a,aes[i]?=some (x.1,a)/\ao A x.2=some a/\Lv A a.refs):
  ∃vs:List (Nat×Value),vs.length=l.length/\(∀(i:Nat) x,l[i]?=some x ->∃v,vs[i]?=some (x.1,v)/\ev s.e x.2=some v)/\∀(i:Nat) p q,aes[i]?=some p ->vs[i]?=some q ->p.1=q.1/\RA C ρ p.2 q.2/\∀k∈p.2.refs,look A'.m k=look A.m k:=by
 induction l generalizing aes with
 |nil=>
  obtain rfl:aes=[]:=List.length_eq_zero_iff.1 c;exact⟨[],rfl,λi x B=>by simp at B,λi a v N f=>by simp at f⟩
 |cons x r D=>
  match aes,c with
  |a::aes,c=>
   obtain⟨E,F,j,H⟩:=has 0 x rfl;obtain rfl:=JB F;obtain⟨_,v,f,I⟩:=h.op g (hl x Ud) j H;obtain⟨vs,K,L,M⟩:=D (λy d=>hl y (by simp[d])) (aes:=aes) (by simpa using c) λi y d=>has (i+1) y d;refine⟨(x.1,v)::vs,by simp[K],λi y d=>?_,λi b u t z=>?_⟩
   ·cases i with
    |zero=>
     obtain rfl:=JB d;exact⟨v,rfl,f⟩
    |succ i=>exact L i y d
   ·cases i with
    |zero=>
     obtain rfl:=JB t;obtain rfl:=JB z;exact⟨rfl,I,g.m e x.2 (hl x Ud) E j⟩
    |succ i=>exact M i b u t z
theorem IM{T:Nat}{ps:Array (Nat×Operand)}{aes:List (Nat×AV)}(D:∀z:List Nat,bC A ((z.map zc).map ir)=true)(g:o.op= .build T ps)(b:aes.length=ps.toList.length)(has:∀(i:Nat) x,ps.toList[i]?=some x ->∃a,aes[i]?=some (x.1,a)/\ao A x.2=some a/\Lv A a.refs)(h:x8 τ n o A k T aes):cv w0 X C0 P τ n o A k:=by
 have d:∀x∈ps.toList,x.2∈av' o.op:=λx E=>by rw[g];exact QD (f:=(·.2)) E
 unfold x8 at h;split at h
 ·rename_i Q z F
  split at h
  ·rename_i R j
   refine dc h λA' s w C ρ H v=>?_;obtain⟨I,L,M,l⟩:=Rp.opp (mv:=iS' o.op) (by rw[g];rfl) v H d b has;obtain⟨y,q1,B⟩:=yb (C:=C) (ρ:=ρ) (vs:=I) (us:=z.map zc) j Uo (λi p q e r=>⟨(l i p q e r).1,λS t=>(tY v (l i p q e r).2.2 t (l i p q e r).2.1).1⟩) (tZ (D z));refine⟨.agg y.toArray,λ_=>⟨y,rfl,B.1,λi c u N O=>(B.2 i c u N O).2⟩,λK U e=>?_⟩;unfold aV;simp only[g];refine yc L M ?_;simp only[F,q1];exact e
  ·exact h.elim
 ·exact h.elim
theorem IN(A:AS)(z:List Nat):bC A ((z.map zc).map ir)=true:=by
 induction z with
 |nil=>rfl
 |cons x r a=>
  have:lC A (ir (zc x))=true:=by
   unfold zc;split<;>rfl
  show (match lC A (ir (zc x))with
   |true=>bC A ((r.map zc).map ir)
   |false=>false)=true
  rw[this];exact a
end
section
variable{w0:World}{X:List Nat}{C0:Mem}{P:Program}{τ:Tau}{n:Nat}{o:Oper}{A A':AS}{k:Kk}{s s':St}{w w':World}{C C':Mem}{ρ:Nat ->Value}
theorem Rp.modSt(h:Rp w0 X C0 A' s w C ρ){j b T:Nat}{D:Nat}{cs cs':List AC}{us':List Value}(hm:look A'.m j=some (.st D T cs))(E:ρ j= .pointer (some ⟨b,0,none⟩))(f:Kp [b] w w')(O:Bk w'.heap b us' T)(hl:us'.length=cs'.length)
  (hc:∀(i:Nat) c u,cs'[i]?=some c ->us'[i]?=some u ->u.oneCell'=true/\(Lv A' c.refs ->RC C ρ c u)) {wr:List (Nat×AV)} (Q:∀t a,look wr t=some a ->∃v,get s'.e t=some v/\RA C ρ a v) (F:∀t,look wr t=none ->get s'.e t=get s.e t):
  Rp w0 X C0 (A'.upd wr [(j,.st D T cs')]) s' w' C ρ:=by
 have d:blk (ρ j)=some b:=by rw[E];rfl
 have p:∀(k:Nat) x,look [(j,SE.st D T cs')] k=some x ->x.alive=true ->k∈([]:List Nat) \/∃y,look A'.m k=some y/\y.alive=true:=λk x q _=>by
  obtain⟨rfl,rfl⟩:=bI q;exact .inr ⟨_,hm,rfl⟩
 refine h.step [] (λ_ _=>rfl) (λk f=>by cases f) (λk f=>by cases f) p f (λz R=>?_) (λ_ _ _ h=>h) (h.sub.kp f λg o v hc B=>?_) (λ_ _ _ h=>.inl ⟨_,_,h⟩) (λk x q=>?_) (λk x g q S B=>?_) (λt a H _=>Q t a H) F
 ·obtain rfl:z=b:=by simpa using R
  exact⟨j,_,_,mF _ _ _,hm,rfl,d⟩
 ·obtain rfl:g=b:=by simpa using B
  exact h.off j _ g g o v hm rfl d hc rfl
 ·obtain⟨rfl,rfl⟩:=bI q
  obtain⟨M,W,e,_,I,_⟩:=h.ent _ _ hm;rw[E]at e;injection e with e
  injection e with e
  injection e with e
  subst e;exact⟨b,us',E,O,I,hl,λi c u l N=>⟨(hc i c u l N).1,λU=>(hc i c u l N).2 (U.up p λk f=>by cases f)⟩⟩
 ·obtain⟨rfl,rfl⟩:=bI q
  rw[d]at B;obtain rfl:=JB B;refine⟨λi y r V K L=>?_,λM o v hc e=>?_⟩
  ·rcases look_app_some V with l|⟨_,l⟩
   ·exact r (bI l).1
   ·exact h.sep i k y _ b r l K hm rfl L d
  ·exact h.off k _ b M o v hm rfl d hc e
theorem IP{T:Nat}{x y:Operand}{a b:AV}(N:o.op= .store T x y)(ha:ao A x=some a)(a3:Lv A a.refs)(hb:ao A y=some b)(W:Lv A b.refs)(h:x9 τ n o A k T a b):cv w0 X C0 P τ n o A k:=by
 have Y:x∈av' o.op:=by rw[N];simp[av']
 have I:y∈av' o.op:=by rw[N];simp[av']
 unfold x9 at h;split at h
 ·rename_i j Z
  split at h
  ·rename_i g0 T' cs hm
   have a0:∀A' s w C ρ,Agr (iS' o.op) A A' (av' o.op) ->Rp w0 X C0 A' s w C ρ ->look A'.m j=some (.st g0 T' cs)/\∃q O,ev s.e x=some (.pointer (some ⟨q,Z,none⟩))/\ρ j= .pointer (some ⟨q,0,none⟩)/\Bk w.heap q O T'/\O.length=cs.length/\∀(i:Nat) c u,cs[i]?=some c ->O[i]?=some u ->u.oneCell'=true/\(Lv A' c.refs ->RC C ρ c u):=λA' s w C ρ E g=>by
    have p:=E.at (by rw[N];rfl) Y ha (by simp[AV.refs,AC.refs]) hm;obtain⟨_,v,Q,q,V,rfl⟩:=g.op E Y ha a3;obtain⟨q',O,f,hB,_,l,hc⟩:=g.ent j _ p;rw[V]at f;injection f with f
    injection f with f
    injection f with f
    subst f;exact⟨p,q,O,Q,V,hB,l,hc⟩
   split at h
   ·rename_i t1 R
    split at h
    ·rename_i c
     split at h
     ·rename_i a4 a1
      have a1:=QX a1;obtain⟨wr,hk,hw,r⟩:=kA h;refine⟨wr,_,[],hk,λA' s w K kp E _ g hK=>?_⟩;obtain⟨C,ρ,g⟩:=g;obtain⟨p,q,O,Q,V,hB,l,hc⟩:=a0 A' s w C ρ E g;obtain⟨_,u,hu,B⟩:=g.op E I hb W;have M:=ya g (E.m (by rw[N];rfl) y I _ hb) a4 B;unfold aV;simp only[N];refine aW Q (aW hu ?_);simp only[R];refine Go.Wx.st hB Uo M λw' S a5 U=>r s _ _ λs' h1 h2 h3=>hK s' w' ⟨C,ρ,g.modSt p V U S (by simp[l]) (λi d e F H=>?_) (λt a D=>⟨_,h1 t a D,by have:=hw t a D;subst this;exact RV.raw _⟩) h2⟩ h3;rw[List.getElem?_set]at F H
      by_cases e1:Z=i
      ·subst e1
       simp only[if_true]at F H;split at F
       ·split at H
        ·obtain rfl:=JB F
         obtain rfl:=JB H;exact⟨M,λ_=>B⟩
        ·cases H
       ·cases F
      ·rw[KY e1]at F H
       exact hc i d e F H
     ·exact h.elim
    ·exact h.elim
   ·rename_i R
    split at h
    ·rename_i fs z ds hz a6 a7
     split at h
     ·rename_i h1 h2
      have h1:=QJ h1;have h2:=QJ h2;obtain⟨wr,hk,hw,r⟩:=kA h;refine⟨wr,_,[],hk,λA' s w K kp E _ g hK=>?_⟩;obtain⟨C,ρ,g⟩:=g;obtain⟨p,q,O,Q,V,hB,l,hc⟩:=a0 A' s w C ρ E g;obtain⟨_,u,hu,B⟩:=g.op E I hb W;obtain⟨L,_⟩:=tY g (E.m (by rw[N];rfl) y I _ hb) a6 B;obtain⟨vs,rfl⟩:=ID a7 B;unfold aV;simp only[N];refine aW Q (aW hu ?_);have a2:vs.toList.length=ds.length:=L.1;have e1:Nat.beq vs.toList.length z.length=true:=by rw[a2,h1];exact Nat.beq_refl _
      simp only[R,hz,e1];refine Go.Wx.stN hB Uo (λv Q=>?_) λw' S a5 U=>r s _ _ λs' g1 g2 g3=>hK s' w' ⟨C,ρ,g.modSt p V U S a2 (λi d e F H=>⟨(L.2 i d e F H).1,λ_=>(L.2 i d e F H).2⟩) (λt a D=>⟨_,g1 t a D,by have:=hw t a D;subst this;exact RV.raw _⟩) g2⟩ g3;obtain⟨i,hi⟩:=JH Q;have a8:=aM hi;exact(L.2 i _ v (gE) hi).1
     ·exact h.elim
    ·exact h.elim
  ·exact h.elim
 ·exact h.elim
end
def dN{α:Type}(sz:Nat):Nat ->List α ->List (List α)
 |0,_=>[]
 |m+1,l=>l.take sz::dN sz m (l.drop sz)
theorem uc{α:Type}(sz:Nat):∀(m:Nat) (l:List α),(dN sz m l).length=m
 |0,_=>rfl
 |m+1,l=>by simp[dN,uc sz m]
theorem CL{α:Type}(sz:Nat):∀(m:Nat) (l:List α),l.length=m*sz ->(dN sz m l).flatten=l
 |0,l,h=>by
  have:l=[]:=List.length_eq_zero_iff.1 (by simpa using h);subst this
  rfl
 |m+1,l,h=>by
  rw[Nat.succ_mul]at h;simp only[dN,List.flatten_cons];rw[CL sz m _ (by rw[VK];omega),List.take_append_drop]
theorem ud{α:Type}(sz:Nat):∀(m:Nat) (l:List α) (i:Nat) (x:List α),l.length=m*sz ->(dN sz m l)[i]?=some x ->x.length=sz/\∀j:Nat,j<sz ->x[j]?=l[i*sz+j]?
 |0,l,i,x,h,a=>by simp[dN]at a
 |m+1,l,0,x,h,a=>by
  rw[Nat.succ_mul]at h;have a:some (l.take sz)=some x:=a;obtain rfl:=JB a;refine⟨by rw[VJ];omega,λj b=>?_⟩;rw[List.getElem?_take,KX b,Nat.zero_mul,KW]
 |m+1,l,i+1,x,h,a=>by
  rw[Nat.succ_mul]at h;obtain⟨c,d⟩:=ud sz m (l.drop sz) i x (by rw[VK];omega) a;refine⟨c,λj b=>?_⟩;rw[d j b,List.getElem?_drop,Nat.succ_mul]
  congr 1
  omega
def kC(z:List AC):Nat ->List AC
 |0=>[]
 |m+1=>z++kC z m
theorem CM(z:List AC):∀m,(kC z m).length=m*z.length
 |0=>by simp[kC]
 |m+1=>by rw[kC,JK,CM z m,Nat.succ_mul,Nat.add_comm]
def refsP(l:List (Nat×AV)):List Nat:=List.rec (motive:=λ_=>List Nat) [] (λx _ ih=>x.2.refs++ih) l
def oU(A:AS)(a:AV):Option (List (List PV)):=match a with
 | .c (.p (.sl l))=>some l
 | .c (.p (.raw (.slice none 0 0)))=>some []
 | .c (.row j)=>match look A.m j with
  |some (.rw _ _ l)=>some l
  |some (.fz l)=>some l
  |_=>none
 |_=>none
structure rC(sz bs m:Nat)(ys:List (List PV))(k:Prop):Prop where
 go:(m+ys.length)*bs<=140737488355328/\m+ys.length<=maxLen/\(∀y∈ys,y.length=sz/\∀q∈y,q.one=true)/\k
structure ue(lo hi:Option Int)(l:List (List PV))(sz:Nat)(k:Nat ->Nat ->Prop):Prop where
 go:∃p q:Nat,(match lo with
 |some x=>x=(p:Int)
 |none=>p=0)/\(match hi with
 |some x=>x=(q:Int)
 |none=>q=l.length)/\p<=q/\q<=l.length/\(∀x∈l,x.length=sz)/\k p q
def ioV:AV ->Option Int
 | .c (.p (.int _ m))=>some m
 |_=>none
section
variable(P:Program)(τ:Tau)(n:Nat)(o:Oper)(A:AS)(k:Kk)
def yd(T len:Nat)(aes:List (Nat×AV)):Prop:=match look τ.slcs T with
 |some (e,sz,_)=>match τ.zero e with
  |some z=>match Nat.beq z.length sz,Nat.ble 1 sz,Nat.ble (len*sz) 16777216,bC A (z.map ir),o.dst with
   |true,true,true,true,some d=>match Nat.ble (d+1) n,mG A (λi=>some (i*sz,sz)) (kC (z.map ir) len) aes with
    |true,some cs=>match tW A cs with
     |some ps=>k [(d,.c (.row d))] ((d,.rw e sz (dN sz len ps))::bJ A (refsP aes)) [d]
     |none=>False
    |_,_=>False
   |_,_,_,_,_=>False
  |none=>False
 |none=>False
def ye(T:Nat)(a b:AV):Prop:=match look τ.slcs T,oU A b,o.dst with
 |some (e,sz,bs),some ys,some d=>match τ.zero e,Nat.ble 1 sz,Nat.ble (d+1) n with
  |some _,true,true=>match a with
   | .c (.row j)=>match look A.m j with
    |some (.rw e' sz' l)=>match Nat.beq e' e,Nat.beq sz' sz with
     |true,true=>rC sz bs l.length ys (k [(d,.c (.row d))] [(d,.rw e sz (l++ys)),(j,.dead)] [d])
     |_,_=>False
    |_=>False
   | .c (.p (.raw (.slice none 0 0)))=>rC sz bs 0 ys (k [(d,.c (.row d))] [(d,.rw e sz ys)] [d])
   | .c (.cl l)=>(0<ys.length/\∀y∈l,y.length=sz/\∀q∈y,q.one=true)/\rC sz bs l.length ys (k [(d,.c (.row d))] [(d,.rw e sz (l++ys))] [d])
   |_=>False
  |_,_,_=>False
 |_,_,_=>False
def yf(T:Nat)(a:AV)(lo hi:Option AV):Prop:=match look τ.slcs T,oU A a,lo,hi with
 |some (_,sz,_),some l,some x,none=>match ioV x with
  |some i=>ue (some i) none l sz λp q=>fin n o.dst (.c (.p (.sl ((l.take q).drop p)))) λwr=>k wr (bJ A a.refs) []
  |none=>False
 |some (_,sz,_),some l,none,some y=>match ioV y with
  |some j=>ue none (some j) l sz λp q=>fin n o.dst (.c (.p (.sl ((l.take q).drop p)))) λwr=>k wr (bJ A a.refs) []
  |none=>False
 |some (_,sz,_),some l,some x,some y=>match ioV x,ioV y with
  |some i,some j=>ue (some i) (some j) l sz λp q=>fin n o.dst (.c (.p (.sl ((l.take q).drop p)))) λwr=>k wr (bJ A a.refs) []
  |_,_=>False
 |_,_,_,_=>False
def uf(mx:Bool)(a b:AV):Prop:=match a,b with
 | .c (.p (.int .i64 x)),.c (.p (.int .i64 y))=>out n o k (.c (.p (.int .i64 (match mx with
  |true=>max x y
  |false=>min x y))))
 |_,_=>False
end
section
variable{w0:World}{X:List Nat}{C0:Mem}{P:Program}{τ:Tau}{n:Nat}{o:Oper}{A A':AS}{k:Kk}{s s':St}{w w':World}{C C':Mem}{ρ:Nat ->Value}
theorem CN{x y:Operand}{a b:AV}{c:Call}{mx:Bool}(e:o.op= .call c)(hc:c.callee= .builtin (if mx=true then .max else .min))(f:c.args.toList=[x,y])(ha:ao A x=some a)(g:Lv A a.refs)(hb:ao A y=some b)(i:Lv A b.refs)(h:uf n o k mx a b):cv w0 X C0 P τ n o A k:=by
 have j:x∈av' o.op:=by rw[e];simp[av',f]
 have l:y∈av' o.op:=by rw[e];simp[av',f]
 unfold uf at h;split at h
 ·rename_i p q
  refine dc h λA' s w C ρ t z=>?_;obtain⟨_,v,B,r⟩:=z.op t j ha g;obtain⟨_,u,D,d⟩:=z.op t l hb i;have r:RV C (.int .i64 p) v:=r;have d:RV C (.int .i64 q) u:=d;cases r;cases d;refine⟨_,λ_=>RV.int _ _,λK F E=>?_⟩;unfold aV;cases mx with
  |true=>
   simp only[e,hc,f,if_true];exact rz B D (run (Ih w) E)
  |false=>
   simp only[e,hc,f,if_false,Bool.false_eq_true];exact rz B D (run (Ii w) E)
 ·exact h.elim
theorem CO{z:List AC}{vs:List Value}(h:RL C ρ z vs):∀m,RL C ρ (kC z m) (gU vs m)
 |0=>⟨rfl,λi c u hc a=>by simp[kC]at hc⟩
 |m+1=>by
  have d:=CO h m;refine⟨by simp[kC,gU,h.1,d.1],λi c u hc a=>?_⟩;simp only[kC,gU]at hc a;rcases Nat.lt_or_ge i z.length with b|b
  ·rw[QH b]at hc
   rw[QH (by rw[h.1];exact b)]at a;exact h.2 i c u hc a
  ·rw[QU b]at hc
   rw[QU (by rw[h.1];exact b),h.1]at a;exact d.2 _ c u hc a
theorem IQ{l:List (Nat×AV)}{k:Nat}(a:k∈refsP l):∃x∈l,k∈x.2.refs:=by
 induction l with
 |nil=>cases a
 |cons y r c=>
  have a:k∈y.2.refs++refsP r:=a;rcases List.mem_append.1 a with h|h
  ·exact⟨y,Ud,h⟩
  ·obtain⟨x,d,b⟩:=c h
   exact⟨x,by simp[d],b⟩
theorem CP{l:List AC}{k:Nat}(a:k∈refsL l):∃x∈l,k∈x.refs:=by
 induction l with
 |nil=>cases a
 |cons y r c=>
  have a:k∈y.refs++refsL r:=a;rcases List.mem_append.1 a with h|h
  ·exact⟨y,Ud,h⟩
  ·obtain⟨x,d,b⟩:=c h
   exact⟨x,by simp[d],b⟩
theorem lay_mem:∀{ds cs:List AC} {o:Nat} {x:AC},x∈Ax' cs o ds ->x∈cs \/x∈ds
 |[],cs,o,x,h=>.inl h
 |d::r,cs,o,x,h=>by
  rcases lay_mem (ds:=r) h with h|h
  ·rcases List.mem_or_eq_of_mem_set h with h|h
   ·exact .inl h
   ·exact .inr (by simp[h])
  ·exact .inr (by simp[h])
theorem IR{a:AV}{ds:List AC}(h:nP A a=some ds):∀k∈refsL ds,k∈a.refs:=λk b=>by
 unfold nP at h;split at h
 ·split at h
  ·obtain rfl:=JB h
   exact b
  ·cases h
 ·rename_i e
  split at h
  ·obtain rfl:=JB h
   exfalso;obtain⟨x,d,c⟩:=CP b;obtain⟨p,_,rfl⟩:=List.mem_map.1 d;cases c
  ·cases h
 ·split at h
  ·obtain rfl:=JB h
   simpa[refsL,AV.refs]using b
  ·cases h
 ·cases h
theorem fill_refs{b:Nat ->Option (Nat×Nat)}:∀{aes:List (Nat×AV)} {cs ds:List AC},mG A b cs aes=some ds ->∀k∈refsL ds,k∈refsL cs \/k∈refsP aes
 |[],cs,ds,h=>λk d=>by
  obtain rfl:=JB h;exact .inl d
 |(i,a)::r,cs,ds,h=>λk d=>by
  simp only[mG]at h;split at h
  ·rename_i p q t j e
   split at h
   ·rcases fill_refs (aes:=r) h k d with f|f
    ·obtain⟨x,l,c⟩:=CP f
     rcases lay_mem l with g|g
     ·exact .inl (jW g c)
     ·exact .inr (QW _ (IR e k (jW g c)))
    ·exact .inr (QV _ f)
   ·cases h
  ·cases h
theorem CQ{z:List AC}(h:refsL z=[]):∀m,refsL (kC z m)=[]
 |0=>rfl
 |m+1=>by
  have:∀a b:List AC,refsL (a++b)=refsL a++refsL b:=λa b=>by
   induction a with
   |nil=>rfl
   |cons x r c=>
    show x.refs++refsL (r++b)=(x.refs++refsL r)++refsL b;rw[c,List.append_assoc]
  rw[kC,this,h,CQ h m]
  rfl
theorem IS{T len:Nat}{ps:Array (Nat×Operand)}{aes:List (Nat×AV)}(ho:o.op= .buildSlice T len ps)(Q:aes.length=ps.toList.length)(has:∀(i:Nat) x,ps.toList[i]?=some x ->∃a,aes[i]?=some (x.1,a)/\ao A x.2=some a/\Lv A a.refs)(h:yd τ n o A k T len aes):cv w0 X C0 P τ n o A k:=by
 have R:∀x∈ps.toList,x.2∈av' o.op:=λx S=>by rw[ho];exact QD (f:=(·.2)) S
 unfold yd at h;split at h
 ·rename_i e l bs hs
  split at h
  ·rename_i z hz
   split at h
   ·rename_i d h1 h2 h3 h4 hd
    have h1:=QJ h1;split at h
    ·rename_i v hn F
     split at h
     ·rename_i U a1
      refine⟨_,_,_,h,λA' s w K kp hA hF N hK=>?_⟩;obtain⟨C,ρ,N⟩:=N;have hF:=hF d Ud;obtain⟨vs,g1,g2,g3⟩:=Rp.opp (mv:=iS' o.op) (by rw[ho];rfl) N hA R Q has;obtain⟨O,q1,q2⟩:=yb (C:=C) (ρ:=ρ) (vs:=vs) (us:=gU z len) F Uo (λi p q V hq=>⟨(g3 i p q V hq).1,λes a2=>(tY N (g3 i p q V hq).2.2 a2 (g3 i p q V hq).2.1).1⟩) (CO (tZ h4) len);have a3:∀k∈refsP aes,look A'.m k=look A.m k:=λk hk=>by
       obtain⟨p,V,H⟩:=IQ hk;obtain⟨i,I⟩:=JH V;have a':=aM I;exact(g3 i p vs[i] I (gE)).2.2 k H
      obtain⟨C1,a4,a5,W⟩:=N.frz (refsP aes) a3;have B:O.length=len*l:=by
       have:∀{aes:List (Nat×AV)} {v D:List AC},mG A (λi=>some (i*l,l)) v aes=some D ->D.length=v.length:=λ{aes}=>by
        induction aes with
        |nil=>intro v D h;rw[<- JB h]
        |cons p r ih=>
         intro v D h;simp only[mG]at h;split at h
         ·split at h
          ·have ll:∀(D v:List AC) (o:Nat),(Ax' v o D).length=v.length:=λD=>by
            induction D with
            |nil=>intro v o;rfl
            |cons x r ih=>intro v o;rw[Ax',ih,List.length_set]
           rw[ih h,ll]
          ·cases h
         ·cases h
       rw[q2.1,this F,CM,KF,h1]
      obtain⟨p1,p2⟩:=oP' a1;have Y:U.length=len*l:=by rw[p1,<- q2.1,B]
      have L:∀(i:Nat) y u,U[i]?=some y ->O[i]?=some u ->u.oneCell'=true/\RV C1 y u:=λi y u Z hu=>by
       have I:=aM hu;have M:v[i]?=some v[i]:=List.getElem?_eq_getElem (by have:=q2.1;omega);obtain⟨y',a0,a6⟩:=p2 i _ M;rw[Z]at a0;obtain rfl:=JB a0;obtain⟨c1,c2⟩:=q2.2 i _ u M hu;refine⟨c1,xW a6 (c2.mono a5) λk hk=>?_⟩;have a7:=jW (JQ M) hk;rcases fill_refs F k a7 with E|E
       ·rw[CQ (CJ z)]at E
        cases E
       ·exact W k E
      unfold aV;simp only[ho];refine yc g1 g2 ?_;simp only[hs,hz,h2,h3];refine fill O q1 (jC λb w' hb hB b0 H=>?_);rw[hd];unfold put;simp only[hn];obtain⟨e0,D⟩:=s;have a8:len<=maxLen:=by
       have h2:=QX h2;have h3:=QX h3;have:len<=len*l:=Nat.le_mul_of_pos_right _ Uo;simp only[maxLen];omega
      refine hK _ _ ⟨C1,jX ρ d (.slice (some ⟨b,0,none⟩) len len),a4.fresh (wr:=[(d,.c (.row d))]) (x:=.rw e l (dN l len U)) (hF.frz _) H (λg hg=>?_) ⟨dN l len O,?_,λx S=>?_,by rw[uc,uc],λi us x I S=>?_⟩ (λt a ht=>?_) λt ht=>?_⟩ rfl
      ·obtain rfl:b=g:=JB hg
       omega
      ·rw[gj,CL l len O B,uc]
       exact xF (Cw hB (by rw[hb];exact N.kp.size) B a8) (KJ _)
      ·obtain⟨i,I⟩:=JH S
       exact(ud l len U i x Y I).1
      ·obtain⟨x1,x2⟩:=ud l len U i x Y S
       obtain⟨u1,u2⟩:=ud l len O i us B I;refine⟨u1,λj y u Z hu=>?_⟩;have hj:=aM Z;rw[x2 j Uo]at Z;rw[u2 j Uo]at hu;exact L _ y u Z hu
      ·obtain⟨rfl,rfl⟩:=bI ht
       refine⟨.slice (some ⟨b,0,none⟩) len len,?_,(gj _ _ _).symm⟩;rw[eV,Nat.beq_refl]
      ·rw[cI]at ht
       rw[eV];cases a9:Nat.beq d t with
       |true=>rw[a9]at ht;cases ht
       |false=>rfl
     ·exact h.elim
    ·exact h.elim
   ·exact h.elim
  ·exact h.elim
 ·exact h.elim
end
theorem CR{P:Program}{T a e d ty:TypeId}{i:TypeInfo}{b:Option Addr}{l c:Nat}{x:Value}(h:P.underlying T=some (.slice e))(f:P.underlying a=some (.slice d))(hi:P.info? e=some i)(w:World):(Builtin.append_ #[T,a] ty #[.slice b l c,x]).run P w=(Builtin.append_ #[T,T] ty #[.slice b l c,x]).run P w:=by
 unfold Builtin.append_;simp[run_underlying h,run_underlying f,sizeOf,typeInfo,hi]
theorem yg{P:Program}{τ:Tau}(B:aS P τ){T e sz bs:Nat}(R:look τ.slcs T=some (e,sz,bs)){z:List Value}(S:τ.zero e=some z)(hsz:0<sz){w:World}{k:Value ->World ->Prop}{v:Value}{n m c ty:Nat}{xs:List Value}{a:Option Addr}
  (base:Nat) (g:w.ownsRow base e sz v n xs) (d:List Value) (hl:d.length=m*sz) (q:m=0 \/∃b o,a=some ⟨b,o,none⟩/\∀j u,d[j]?=some u ->Cl w.heap b (o+j) u)
  (h1:∀u∈d,u.oneCell'=true) (p:(n+m)*bs<=140737488355328) (F:n+m<=maxLen) (r:base<=w.heap.size)
  (N:∀x w',w'.ownsRow base e sz x (n+m) (xs++d) ->Kp v.ownBlock.toList w w' ->(x.ownBlock=v.ownBlock \/x.ownBlock=some w.heap.size) ->k x w'):EvRun P (Builtin.append_ #[T,T] ty #[v,.slice a m c]) w k:=by
 obtain⟨O,H,f,i,I⟩:=B.slcs T e sz bs R;obtain⟨l,v0,t,U,V,D⟩:=mA B S;have:l=H:=by rw[t]at f;simpa using f
 subst this;have K:v0.cells.size=sz:=by rw[V,<- i,D];simp
 have Q:∀y,a=some y ->(∀j u,d[j]?=some u ->w.cell? (y.add j)=some u) ->EvRun P (Builtin.append_ #[T,T] ty #[v,.slice a m c]) w k:=λy W L=>by
  subst W;obtain⟨x,w',Y,Z,hg,_,E⟩:=run_append_own_at (P:=P) w base T ty e l v0 sz bs O f U i I K hsz v n xs g y m c d hl L h1 F p r;exact run Y (N x w' Z (ru hg) E)
 rcases q with rfl|⟨b,o,rfl,L⟩
 ·have M:d=[]:=List.eq_nil_of_length_eq_zero (by simpa using hl)
  subst M;cases a with
  |some y=>exact Q y rfl Ud
  |none=>
   refine run (xB T ty e l O f v n xs g c) (N v w (by simpa using g) ((Kp.refl [] w).weak Ud) (.inl rfl))
 ·refine Q _ rfl λj u hj=>?_
  rw[show (⟨b,o,none⟩:Addr).add j=⟨b,o+j,none⟩ by unfold Addr.add;split<;>simp_all];exact(L j u hj).cell
theorem CS{P:Program}{τ:Tau}(p:aS P τ){T B e sz bs:Nat}{q:Nat×Nat×Nat}(K:look τ.slcs T=some (e,sz,bs))(D:look τ.slcs B=some q){z:List Value}(M:τ.zero e=some z)(hsz:0<sz){w:World}{k:Value ->World ->Prop}{v:Value}{n m c ty:Nat}{xs:List Value}{a:Option Addr}
  (base:Nat) (i:w.ownsRow base e sz v n xs) (d:List Value) (hl:d.length=m*sz) (r:m=0 \/∃b o,a=some ⟨b,o,none⟩/\∀j u,d[j]?=some u ->Cl w.heap b (o+j) u)
  (h1:∀u∈d,u.oneCell'=true) (f:(n+m)*bs<=140737488355328) (E:n+m<=maxLen) (t:base<=w.heap.size)
  (N:∀x w',w'.ownsRow base e sz x (n+m) (xs++d) ->Kp v.ownBlock.toList w w' ->(x.ownBlock=v.ownBlock \/x.ownBlock=some w.heap.size) ->k x w'):EvRun P (Builtin.append_ #[T,B] ty #[v,.slice a m c]) w k:=by
 have:=yg p K M hsz (ty:=ty) (c:=c) base i d hl r h1 f E t N;obtain⟨O,F,H⟩:=q;obtain⟨Q,R,y,_⟩:=p.slcs T e sz bs K;obtain⟨I,_⟩:=p.slcs B O F H D;obtain⟨b,l,L,rfl⟩:∃b l L,v= .slice b l L:=by
  rcases i.2 with ⟨rfl,_⟩|⟨g,S,U,rfl,_⟩
  ·exact⟨_,_,_,rfl⟩
  ·exact⟨_,_,_,rfl⟩
 unfold EvRun at this ⊢;obtain⟨x,w',h1,V⟩:=this;exact⟨x,w',by rw[CR Q I y];exact h1,V⟩
theorem IT{P:Program}{τ:Tau}(M:aS P τ){T N e ty:Nat}(hs:look τ.slcs T=some (e,1,8))(hz:τ.zero e=some [iV 0])(D:P.underlying N=some (.int .i64)){w:World}{K:Value ->World ->Prop}{v:Value}{n:Nat}{xs:List Value}(lo:Nat)(q:w.ownsRow lo e 1 v n xs)(k:Nat)(h0:0<k)(hk:k<=100)(hl:n<=1000000)(E:lo<=w.heap.size)
  (hK:∀v' w',w'.ownsRow lo e 1 v' (n+k) (xs++List.replicate k (iV 0)) ->Kp v.ownBlock.toList w w' ->(v'.ownBlock=v.ownBlock \/v'.ownBlock=some w.heap.size) ->K v' w'):EvRun P (Builtin.append_ #[T,N] ty #[v,iV (k:Int)]) w K:=by
 obtain⟨O,a2,B,r,t⟩:=M.slcs T e 1 8 hs;obtain⟨a,v0,c,hv,Q,a6⟩:=mA M hz;have:a=a2:=by rw[c]at B;simpa using B
 subst this;have R:v0.cells.size=1:=by rw[Q];rfl
 have S:(Builtin.zeroCells v0.cells k).toList=List.replicate k (iV 0):=by
  simp only[Builtin.zeroCells,R,Nat.mul_one];rw[Array.toList_map,Array.toList_range];apply List.ext_getElem
  ·simp
  ·intro i h1 h2
   simp only[List.getElem_map,List.getElem_replicate,Nat.mod_one];rw[Q]
   rfl
 have U:Builtin.zeroCells v0.cells k=(List.replicate k (iV 0)).toArray:=by
  apply Array.ext';rw[S]
 have d:=q.1;rw[Nat.mul_one]at d;have x:∀(f:Nat),f<n+k ->(w.drew.alloc (.cells (xs.toArray++Builtin.zeroCells v0.cells k++Builtin.zeroCells v0.cells (grownCap w (n+k) f e-(n+k))) e)).ownsRow lo e 1
    (.slice (some ⟨w.heap.size,0,none⟩) (n+k) (grownCap w (n+k) f e)) (n+k) (xs++List.replicate k (iV 0))/\
   Kp v.ownBlock.toList w (w.drew.alloc (.cells (xs.toArray++Builtin.zeroCells v0.cells k++Builtin.zeroCells v0.cells (grownCap w (n+k) f e-(n+k))) e)):=by
  intro f ho;have a3:=grownCap_ge w (n+k) f e;have F:grownCap w (n+k) f e<=maxLen:=grownCap_le_maxLen w (n+k) f e (by unfold maxLen;omega);refine⟨⟨by simp[d],.inr ⟨w.heap.size,_,_,rfl,E,heap_alloc_new w.drew _,a3,F,?_,?_⟩⟩,⟨rfl,rfl,rfl,by
   show w.heap.size<=(w.heap.push _).size;simp,λb hb _=>by
   show (w.heap.push _)[b]?=_;rw[Array.getElem?_push_lt hb];simp[hb]⟩⟩
  ·simp only[Array.size_append,List.size_toArray,size_zeroCells,R,d,Nat.mul_one]
   omega
  ·rw[Array.toList_append,Array.toList_append,S]
   have:(xs++List.replicate k (iV 0)).length=(n+k)*1:=by simp[d]
   rw[<- this];exact List.take_left
 rcases q.2 with ⟨rfl,H⟩|⟨g,l,y,rfl,a4,hg,a7,F,V,I⟩
 ·have hx:xs=[]:=List.eq_nil_of_length_eq_zero (by rw[d,H])
  have h:=Lib.run_append_grow_zeros (P:=P) w T N ty e a v0 .i64 .i64 O D c hv none 0 0 [] (run_firstCells_none (w:=w.drew) a.size 0 0 0) k h0 Uo Uo Uk (by rw[t];omega)
   (by rw[t];exact growslice_fits Uo Uo)
  have p:=x 0 Uo;rw[H,hx]at p;rw[H,hx]at hK;exact run h (hK _ _ p.1 p.2 (.inr rfl))
 ·by_cases z:n+k<=l
  ·have W:(Builtin.append_ #[T,N] ty #[.slice (some ⟨g,0,none⟩) n l,iV (k:Int)]).run P w= .ok (.slice (some ⟨g,0,none⟩) (n+k) l) (w.setRow g (y.toList.take n++List.replicate k (iV 0)++y.toList.drop (n+k)).toArray):=by
    have Y:k≠0:=Uo
    have hw:IntKind.i64.wrap (k:Int)=k:=by rw[IntKind.wrap_i64];omega
    have Z:¬ (281474976710656<(k:Int)*(a.bytes:Int)):=by rw[t];omega
    have a0:¬ ((k:Int)<0):=Uo
    have a5:¬ (k*a.size=0):=Nat.mul_ne_zero Y Uo;have a1:=run_storeCells_at P g n e (List.replicate k (iV 0)) 0 y w hg (by simp;rw[V];omega) (λu O=>by rw[(List.mem_replicate.1 O).2];rfl);simp only[Nat.add_zero,List.length_replicate]at a1;simp[Builtin.append_,run_underlying O,run_underlying D,sizeOf,typeInfo,zeroValue,c,hv,asInt,asIntOf,hw,a0,Z,a5,z,U,r,Addr.add_lit,Y,a1]
   refine run W (hK _ _ ?_ ?_ (.inl rfl))
   ·refine⟨by simp[d],.inr ⟨g,l,_,rfl,a4,setRow_heap w g y _ e _ hg,z,F,?_,?_⟩⟩
    ·simp only[List.size_toArray,JK,VJ,VK,Array.length_toList,List.length_replicate,V]
     omega
    ·have ht:y.toList.take n=xs:=by simpa using I
     rw[ht];have:(xs++List.replicate k (iV 0)).length=(n+k)*1:=by simp[d]
     rw[<- this];exact List.take_left
   ·exact⟨rfl,rfl,rfl,Ud,λb _ hb=>setRow_other w g b _ (λe=>hb (by simp[Value.ownBlock,e]))⟩
  ·have L:∀j u,xs[j]?=some u ->w.cell? ((⟨g,0,none⟩:Addr).add j)=some u:=q.cells (g:=g) rfl
   have hf:=run_firstCells_some (P:=P) w.drew a.size n ⟨g,0,none⟩ n l xs (by rw[d,r];omega) (by simpa using L);have h:=Lib.run_append_grow_zeros (P:=P) w T N ty e a v0 .i64 .i64 O D c hv (some ⟨g,0,none⟩) n l xs hf k h0 Uo Uo Uo (by rw[t];omega)
    (by rw[t];exact growslice_fits Uo Uo)
   have p:=x l Uo;exact run h (hK _ _ p.1 p.2 (.inr rfl))
section
variable{w0:World}{X:List Nat}{C0:Mem}{P:Program}{τ:Tau}{n:Nat}{o:Oper}{A A':AS}{k:Kk}{s s':St}{w w':World}{C C':Mem}{ρ:Nat ->Value}
theorem yh(h:Rp w0 X C0 A' s w C ρ){a:AV}(hA:∀k∈a.refs,look A'.m k=look A.m k){ys:List (List PV)}(he:oU A a=some ys){sz:Nat}(U:∀y∈ys,y.length=sz/\∀q∈y,q.one=true){v:Value}(H:RA C ρ a v):
  ∃(css:List (List Value)) (I:Option Addr) (c:Nat),v= .slice I ys.length c/\css.length=ys.length/\(∀(i:Nat) (us:List Value) x,css[i]?=some us ->ys[i]?=some x ->us.length=sz/\∀(j:Nat) y u,x[j]?=some y ->us[j]?=some u ->u.oneCell'=true/\RV C y u)/\
   (ys.length=0 \/∃b o,I=some ⟨b,o,none⟩/\∀j u,css.flatten[j]?=some u ->Cl w.heap b (o+j) u):=by
 have t:∀l:List (List PV),l=ys ->RV C (.sl l) v ->∃(css:List (List Value)) (I:Option Addr) (c:Nat),v= .slice I ys.length c/\css.length=ys.length/\(∀(i:Nat) (us:List Value) x,css[i]?=some us ->ys[i]?=some x ->us.length=sz/\∀(j:Nat) y u,x[j]?=some y ->us[j]?=some u ->u.oneCell'=true/\RV C y u)/\
   (ys.length=0 \/∃b o,I=some ⟨b,o,none⟩/\∀j u,css.flatten[j]?=some u ->Cl w.heap b (o+j) u):=λl e L=>by
  subst e;cases L with
  |nil a c=>exact⟨[],a,c,rfl,rfl,λi us x p r=>by simp at p,.inl rfl⟩
  |sl _ d b o c f S h2 V h4=>
   by_cases h0:l.length=0
   ·have e:l=[]:=List.length_eq_zero_iff.1 h0
    subst e;exact⟨[],_,c,rfl,rfl,λi us x p r=>by simp at p,.inl rfl⟩
   ·have e:d=sz:=by
     have r:=List.getElem_mem (l:=l) (n:=0) Uo;have:=S _ r;have:=(U _ r).1;omega
    subst e
    let css:List (List Value):=(List.range l.length).map λi=>(List.range d).map λj=>f i j
    have z:∀(i:Nat) us,css[i]?=some us ->i<l.length/\us=(List.range d).map λj=>f i j:=λi us p=>by
     simp only[css,JX]at p;rcases Nat.lt_or_ge i l.length with h|h
     ·rw[List.getElem?_range h]at p
      exact⟨h,(JB p).symm⟩
     ·rw[QF (by simpa using h)]at p;cases p
    have K:∀(i:Nat) (us:List Value) x,css[i]?=some us ->l[i]?=some x ->us.length=d/\∀(j:Nat) y u,x[j]?=some y ->us[j]?=some u ->u.oneCell'=true/\RV C y u:=λi us x p r=>by
     obtain⟨_,rfl⟩:=z i us p;refine⟨Ud,λj y u D M=>?_⟩;rw[JX]at M;rcases Nat.lt_or_ge j d with h|h
     ·rw[List.getElem?_range h]at M
      obtain rfl:=JB M;have L:=h4 i j x y r D;exact⟨RV.one L ((U x (JQ r)).2 y (JQ D)),L⟩
     ·rw[QF (by simpa using h)]at M;cases M
    refine⟨css,_,c,rfl,by simp[css],K,.inr ⟨b,o,rfl,λj u T=>?_⟩⟩;have B:∀us∈css,us.length=d:=λus E=>by
     obtain⟨q,hq⟩:=JH E;obtain⟨_,rfl⟩:=z q us hq;simp
    have W:=pP css B;have N:css.length=l.length:=by simp[css]
    have a2:=aM T;have F:0<d:=by
     rcases Nat.eq_zero_or_pos d with e|e
     ·rw[e,Nat.mul_zero]at W;omega
     ·exact e
    have p:j/d<css.length:=(Nat.div_lt_iff_lt_mul F).2 Uo;have L:=Nat.mod_lt j F;have E:css[j/d]?=some css[j/d]:=List.getElem?_eq_getElem p;obtain⟨_,e1⟩:=z _ _ E;have a1:=B _ (List.getElem_mem p);have O:(css[j/d])[j%d]?=some (css[j/d])[j%d]:=gE;have Y:=pQ css B (j/d) (j%d) _ _ E O;have Q:=Nat.div_add_mod' j d;rw[Q,T]at Y;have R:u=f (j/d) (j%d):=by
     have e2:(css[j/d])[j%d]?=some (f (j/d) (j%d)):=by
      rw[e1,JX,List.getElem?_range L]
      rfl
     rw[O]at e2;rw[JB Y,JB e2]
    have r:l[j/d]?=some l[j/d]:=gE;have a3:=S _ (JQ r);have D:(l[j/d])[j%d]?=some (l[j/d])[j%d]:=gE;have:=h.sub _ _ _ (V _ _ _ _ r D);rw[Nat.add_assoc,Q,<- R]at this;exact this
 unfold oU at he;split at he
 ·rename_i l
  exact t l (JB he) H
 ·obtain rfl:=JB he
  have H:RV C (.raw (.slice none 0 0)) v:=H;cases H;exact⟨[],none,0,rfl,rfl,λi us x p r=>by simp at p,.inl rfl⟩
 ·rename_i j
  have H:v=ρ j:=H;subst H;split at he
  ·rename_i e d l Z
   obtain rfl:=JB he;obtain⟨css,ho,S,h2,V⟩:=h.ent j _ (by rw[hA j (by simp[AV.refs,AC.refs])];exact Z);obtain⟨I,a0,e,_,_,hb⟩:=pO ho.1;refine⟨css,I,a0,e,h2,λi us x p r=>?_,?_⟩
   ·have:=V i us x p r
    have h4:=S x (JQ r);have Y:=(U x (JQ r)).1;exact⟨Uo,this.2⟩
   ·rcases hb with hb|⟨g,hg,_,_,N⟩
    ·exact .inl hb
    ·exact .inr ⟨g,0,hg,λj u T=>by rw[KW];exact N j u T⟩
  ·rename_i l Z
   have:=h.ent j _ (by rw[hA j (by simp[AV.refs,AC.refs])];exact Z);exact t l (JB he) this
  ·cases he
 ·cases he
theorem yi{d e sz:Nat}{l ys:List (List PV)}{wm:List (Nat×SE)}(hd:o.dst=some d)(hn:Nat.ble (d+1) n=true)(hk:k [(d,.c (.row d))] ((d,.rw e sz (l++ys))::wm) [d])(a6:∀y∈ys,y.length=sz)(F:∀j x,look wm j=some x ->x= .dead)
  (a0:∀A' s w C ρ,Agr (iS' o.op) A A' (av' o.op) ->Rp w0 X C0 A' s w C ρ ->∃(v:Value) (css H:List (List Value)),(∀x∈l,x.length=sz)/\css.length=l.length/\
   (∀(i:Nat) (us:List Value) x,css[i]?=some us ->l[i]?=some x ->us.length=sz/\∀(j:Nat) y u,x[j]?=some y ->us[j]?=some u ->u.oneCell'=true/\RV C y u)/\(∀g,v.ownBlock=some g ->∃j y,look wm j=some .dead/\look A'.m j=some y/\y.mut=true/\blk (ρ j)=some g)/\
   H.length=ys.length/\(∀(i:Nat) (us:List Value) x,H[i]?=some us ->ys[i]?=some x ->us.length=sz/\∀(j:Nat) y u,x[j]?=some y ->us[j]?=some u ->u.oneCell'=true/\RV C y u)/\
   ∀(K:St ->World ->Prop) (kp:List PanicEntry ->St ->World ->Prop),(∀T w',w'.ownsRow 0 e sz T (l.length+ys.length) (css.flatten++H.flatten) ->Kp v.ownBlock.toList w w' ->(T.ownBlock=v.ownBlock \/∀g,T.ownBlock=some g ->w.heap.size<=g) ->put n s o.dst T λs'=>K s' w') ->aV P τ n o s w K kp):cv w0 X C0 P τ n o A k:=by
 refine⟨_,_,_,hk,λA' s w K kp hA hF E hK=>?_⟩;obtain⟨C,ρ,E⟩:=E;have hF:=hF d Ud;obtain⟨v,css,H,a7,a1,a8,p,a9,a2,a'⟩:=a0 A' s w C ρ hA E;refine a' _ _ λT w' U a3 B=>?_;rw[hd];unfold put;simp only[hn];obtain⟨e0,ds⟩:=s;have a4:=mD U;have b5:look wm d=none \/look wm d=some .dead:=by
  cases b:look wm d with
  |none=>exact .inl rfl
  |some q=>exact .inr (by rw[F d q b])
 refine hK _ _ ⟨C,jX ρ d T,E.step (wr:=[(d,.c (.row d))]) (wm:=(d,.rw e sz (l++ys))::wm) (s':=⟨(d,T)::e0,ds⟩) [d] (λq b=>rA (by simpa using b)) (λq b=>(List.mem_singleton.1 b).symm▸hF) (λq b=>⟨.rw e sz (l++ys),by rw[List.mem_singleton.1 b];exact mF d _ wm⟩) (λq x b D=>?_) a3 (λz hz=>?_) (λ_ _ _ h=>h)
  (E.sub.kp a3 λg o0 v0 b0 r=>?_) (λ_ _ _ h=>.inl ⟨_,_,h⟩) (λq x b=>?_) (λq x g b hm r=>?_) (λt a ht _=>?_) λt ht=>?_⟩ rfl
 ·rw[cI]at b
  cases f:Nat.beq d q with
  |true=>exact .inl (by simp[QJ f])
  |false=>
   rw[f]at b;rw[F q x b]at D;cases D
 ·have hz:v.ownBlock=some z:=by simpa using hz
  obtain⟨j,y,Z,N,I,O⟩:=p z hz;have Q:Nat.beq d j=false:=by
   cases b1:Nat.beq d j with
   |true=>
    have:=hF.un y (QJ b1▸N);rw[this]at I;cases I
   |false=>rfl
  exact⟨j,.dead,y,by rw[cI,Q];exact Z,N,I,O⟩
 ·have r:v.ownBlock=some g:=by simpa using r
  obtain⟨j,y,Z,N,I,O⟩:=p g r;exact E.off j y g g o0 v0 N I O b0 rfl
 ·rw[cI]at b
  cases f:Nat.beq d q with
  |true=>
   rw[f]at b;obtain rfl:=JB b;obtain rfl:=QJ f;refine⟨css++H,?_,λx D=>?_,by simp[a1,a9],λi us x V D=>?_⟩
   ·refine⟨by rw[gj,JK,List.flatten_append];exact U,λg r=>?_⟩
    rw[gj,a4]at r;rcases B with R|R
    ·rw[R]at r
     obtain⟨j,y,Z,N,I,O⟩:=p g r;exact(E.blk_lt N I O).2
    ·exact .inl (KQ E.kp.size (R g r))
   ·rcases List.mem_append.1 D with D|D
    ·exact a7 x D
    ·exact a6 x D
   ·rcases Nat.lt_or_ge i l.length with W|W
    ·rw[QH Uo]at V
     rw[QH W]at D;exact a8 i us x V D
    ·rw[QU Uo,a1]at V
     rw[QU W]at D;exact a2 _ us x V D
  |false=>
   rw[f]at b;rw[F q x b];exact VQ
 ·rw[cI]at b
  cases f:Nat.beq d q with
  |true=>
   rw[f]at b;obtain rfl:=QJ f;rw[gj,a4]at r;refine⟨λi y Q V S Y=>?_,λb' o' b2 a5 R=>?_⟩
   ·have V:look (((d,SE.rw e sz (l++ys))::wm)++A'.m) i=some y:=V
    rcases look_app_some V with h2|⟨L,h2⟩
    ·rw[cI]at h2
     cases M:Nat.beq d i with
     |true=>exact Q (QJ M).symm
     |false=>
      rw[M]at h2;rw[F i y h2]at S;cases S
    ·rw[rA Q]at Y
     rcases B with R|R
     ·rw[R]at r
      obtain⟨j,y',Z,N,I,O⟩:=p g r;have b3:i≠j:=λe2=>by
       subst e2;rw[cI]at L;cases M:Nat.beq d i with
       |true=>rw[M]at L;cases L
       |false=>rw[M,Z]at L;cases L
      exact E.sep i j y y' g b3 h2 S N I Y O
     ·have:=R g r
      have:=(E.blk_lt h2 S Y).1;omega
   ·rcases B with e2|e2
    ·rw[e2]at r
     obtain⟨j,y',Z,N,I,O⟩:=p g r;exact E.off j y' g b' o' b2 N I O a5 R
    ·have:=e2 g r
     have:=(E.sub _ _ _ a5).lt;omega
  |false=>
   rw[f]at b;rw[F q x b]at hm;cases hm
 ·obtain⟨rfl,rfl⟩:=bI ht
  refine⟨T,?_,(gj _ _ _).symm⟩;rw[eV,Nat.beq_refl]
 ·rw[cI]at ht
  rw[eV];cases b4:Nat.beq d t with
  |true=>rw[b4]at ht;cases ht
  |false=>rfl
theorem yj{x y:Option Nat}{m:Nat}(h:x=y \/x=some m):x=y \/∀g,x=some g ->m<=g:=h.imp id λe g a=>by
 rw[e]at a;exact Nat.le_of_eq (JB a)
theorem IU{T T':Nat}{q:Nat×Nat×Nat}{x y:Operand}{a b:AV}{c:Call}(N:aS P τ)(ho:o.op= .call c)(hc:c.callee= .builtin .append)(hx:c.args.toList=[x,y])(hT:c.argTypes= #[T,T'])(a6:look τ.slcs T'=some q)(ha:ao A x=some a)(a7:Lv A a.refs)(hb:ao A y=some b)(b9:Lv A b.refs)(h:ye τ n o A k T a b):cv w0 X C0 P τ n o A k:=by
 have a0:x∈av' o.op:=by rw[ho];simp[av',hx]
 have a1:y∈av' o.op:=by rw[ho];simp[av',hx]
 unfold ye at h;split at h
 ·rename_i e O bs Y d hs b' hd
  split at h
  ·rename_i z hz h1 hn
   have a8:=QX h1;have a4:∀(l:List (List PV)) (wm:List (Nat×SE)),(l.length+Y.length)*bs<=140737488355328 ->l.length+Y.length<=maxLen ->(∀y∈Y,y.length=O/\∀q∈y,q.one=true) ->k [(d,.c (.row d))] ((d,.rw e O (l++Y))::wm) [d] ->
     (∀j x,look wm j=some x ->x= .dead) ->(∀A' s w C ρ,Agr (iS' o.op) A A' (av' o.op) ->Rp w0 X C0 A' s w C ρ ->∃(v:Value) (f:List (List Value)),ev s.e x=some v/\w.ownsRow 0 e O v l.length f.flatten/\(∀x∈l,x.length=O)/\f.length=l.length/\
      (∀(i:Nat) (t:List Value) x,f[i]?=some t ->l[i]?=some x ->t.length=O/\∀(j:Nat) y u,x[j]?=some y ->t[j]?=some u ->u.oneCell'=true/\RV C y u)/\(∀g,v.ownBlock=some g ->∃j y,look wm j=some .dead/\look A'.m j=some y/\y.mut=true/\blk (ρ j)=some g)) ->cv w0 X C0 P τ n o A k:=λl wm d' e0 a9 hk e2 c0=>by
    refine yi hd hn hk (λy hy=>(a9 y hy).1) e2 λA' s w C ρ M I=>?_;obtain⟨v,f,hv,e4,e5,Q,a2,c2⟩:=c0 A' s w C ρ M I;obtain⟨_,u,R,a'⟩:=I.op M a1 hb b9;obtain⟨B,ad,b4,rfl,E,r,F⟩:=yh I (M.m (pR ho hc) y a1 b hb) b' a9 a';have S:∀t∈B,t.length=O:=λt D=>by
     obtain⟨q,hq⟩:=JH D;have e6:=aM hq;exact(r q t _ hq (gE)).1
    have c3:∀u∈B.flatten,u.oneCell'=true:=λu R=>by
     obtain⟨t,D,R⟩:=List.mem_flatten.1 R;obtain⟨i,L⟩:=JH D;obtain⟨j,Z⟩:=JH R;have e7:=aM L;have e8:=aM Z;have U:Y[i]?=some Y[i]:=gE;have e9:=(a9 _ (JQ U)).1;have f':=S t D;exact((r i t _ L U).2 j _ u (gE) Z).1
    refine⟨v,f,B,e5,Q,a2,c2,E,r,λK kp hK=>?_⟩;unfold aV;simp only[ho,hc,hx];refine rz hv R ?_;simp only[hT];exact CS N hs a6 hz a8 0 e4 B.flatten (by rw[pP B S,E]) F c3 d' e0 (KV _) λv' w' q1 q2 q3=>hK v' w' q1 q2 (yj q3)
   split at h
   ·rename_i j
    split at h
    ·rename_i e' c4 l hm
     split at h
     ·rename_i b5 b6
      have b5:=QJ b5;have b6:=QJ b6;subst b5;subst b6
      replace h:=h.go
      obtain⟨b1,b2,b3,h⟩:=h;refine a4 l [(j,.dead)] b1 b2 b3 h (λi x L=>(bI L).2) λA' s w C ρ M I=>?_;have c5:=M.at (pR ho hc) a0 ha (by simp[AV.refs,AC.refs]) hm;obtain⟨_,v,hv,hr⟩:=I.op M a0 ha a7;have hr:v=ρ j:=hr;subst hr;obtain⟨f,g1,g2,g3,g4⟩:=I.ent j _ c5;exact⟨ρ j,f,hv,g1.1,g2,g3,g4,λg hg=>⟨j,_,mF _ _ _,c5,rfl,by rw[mD g1.1];exact hg⟩⟩
     ·exact h.elim
    ·exact h.elim
   ·replace h:=h.go
    obtain⟨b1,b2,b3,h⟩:=h;refine a4 [] [] (by simpa using b1) (by simpa using b2) b3 (by simpa using h) (λi x L=>by cases L) λA' s w C ρ M I=>?_;obtain⟨_,v,hv,hr⟩:=I.op M a0 ha a7;have hr:RV C (.raw (.slice none 0 0)) v:=hr;cases hr;exact⟨_,[],hv,⟨Ud,.inl ⟨rfl,rfl⟩⟩,(λx hx=>by cases hx),rfl,(λi t x L hx=>by simp at L),λg hg=>by cases hg⟩
   ·rename_i l
    obtain⟨⟨h0,hl⟩,h⟩:=h
    replace h:=h.go
    obtain⟨b1,b2,b3,h⟩:=h;refine yi (wm:=[]) hd hn h (λy hy=>(b3 y hy).1) (λi x L=>by cases L) λA' s w C ρ M I=>?_;obtain⟨_,v,hv,hr,av,rfl⟩:=I.op M a0 ha a7;obtain⟨_,u,R,a'⟩:=I.op M a1 hb b9;obtain⟨B,ad,b4,rfl,E,r,F⟩:=yh I (M.m (pR ho hc) y a1 b hb) b' b3 a';obtain⟨f,h8,h7,e1,Q,a2,V⟩:=yh (A:=A) (a:=.c (.p (.sl l))) I (λk hk=>by cases hk) rfl hl hr;injection e1 with e1 _ _
    subst e1;have b7:∀{cs:List (List Value)} {ls:List (List PV)},cs.length=ls.length ->(∀(i:Nat) (t:List Value) x,cs[i]?=some t ->ls[i]?=some x ->t.length=O/\∀(j:Nat) y u,x[j]?=some y ->t[j]?=some u ->u.oneCell'=true/\RV C y u) ->∀t∈cs,t.length=O:=λhe hh t D=>by
     obtain⟨q,hq⟩:=JH D;have e6:=aM hq;exact(hh q t _ hq (gE)).1
    have f1:=pP f (b7 Q a2);have f2:=pP B (b7 E r);rw[Q]at f1;rw[E]at f2;have c6:∀{b o:Nat} {ns:List Value},(∀j u,ns[j]?=some u ->Cl w.heap b (o+j) u) ->∀j u,ns[j]?=some u ->w.cell? ((⟨b,o,none⟩:Addr).add j)=some u:=λ{b1 o1 ns} hh j u Z=>by
     rw[show (⟨b1,o1,none⟩:Addr).add j=⟨b1,o1+j,none⟩ by unfold Addr.add;split<;>simp_all];exact(hh j u Z).cell
    refine⟨.slice none 0 0,f,B,λx hx=>(hl x hx).1,Q,a2,(λg hg=>by cases hg),E,r,λK kp hK=>?_⟩;unfold aV;simp only[ho,hc,hx];refine rz hv R ?_;simp only[hT];obtain⟨e',c4,g0⟩:=q;obtain⟨c7,g5,H,W,g6⟩:=N.slcs T e O bs hs;obtain⟨g7,_⟩:=N.slcs T' e' c4 g0 a6;obtain⟨a5,v0,b8,g8,g9,c8⟩:=mA N hz;have:a5=g5:=by rw[b8]at H;simpa using H
    subst this;have h2:v0.cells.size=O:=by rw[g9,<- W,c8];simp
    obtain⟨b0,o0,rfl,c9⟩:=F.resolve_left Uo;have go:∀bd,(∀j u,f.flatten[j]?=some u ->w.cell? (Addr.add bd j)=some u) ->EvRun P (Builtin.append_ #[T,T'] o.type #[.slice (some bd) l.length l.length,.slice (some ⟨b0,o0,none⟩) Y.length b4]) w λv w'=>put n s o.dst v λs'=>K s' w':=λbd h3=>by
     obtain⟨v',w',h4,c',hg⟩:=run_append_arg_grows (P:=P) w T o.type e a5 v0 O bs c7 H g8 W g6 h2 a8 bd l.length l.length f.flatten f1 h3 ⟨b0,o0,none⟩ Y.length b4 B.flatten f2 (c6 c9) Uo b2 b1;unfold EvRun;refine⟨v',w',by rw[CR c7 g7 H];exact h4,hK v' w' (CD c' (KV _)) (ru hg) (.inr λg a3=>?_)⟩;rcases c'.2 with ⟨e3,_⟩|⟨g',_,_,e3,h5,_⟩
     ·rw[e3]at a3;cases a3
     ·rw[e3]at a3
      obtain rfl:g'=g:=JB a3;exact h5
    cases av with
    |some bd=>
     rcases V with h5|⟨h9,h',e3,h6⟩
     ·have:f=[]:=List.length_eq_zero_iff.1 Uo
      exact go bd λj u Z=>by rw[this]at Z;simp at Z
     ·obtain rfl:=JB e3
      exact go _ (c6 h6)
    |none=>
     have h5:l.length=0:=V.resolve_right λ⟨_,_,e3,_⟩=>by cases e3
     have:f=[]:=List.length_eq_zero_iff.1 Uo;subst this;rw[h5];rw[h5]at hK b1 b2;exact CS N hs a6 hz a8 0 (v:=.slice none 0 0) (n:=0) (xs:=[]) ⟨Ud,.inl ⟨rfl,rfl⟩⟩ B.flatten f2 (.inr ⟨b0,o0,rfl,c9⟩) (λu R=>by
      obtain⟨t,D,R⟩:=List.mem_flatten.1 R;obtain⟨i,L⟩:=JH D;obtain⟨j,Z⟩:=JH R;have e7:=aM L;have e8:=aM Z;have U:Y[i]?=some Y[i]:=gE;have e9:=(b3 _ (JQ U)).1;have f':=b7 E r t D;exact((r i t _ L U).2 j _ u (gE) Z).1) b1 b2 (KV _) λv' w' q1 q2 q3=>hK v' w' q1 q2 (yj q3)
   ·exact h.elim
  ·exact h.elim
 ·exact h.elim
structure rD(l:List (List PV))(m:Int)(k:Nat ->Prop):Prop where
 go:∃i:Nat,m=i/\0<i/\i<=100/\l.length<=1000000/\k i
def yk(τ:Tau)(n:Nat)(o:Oper)(A:AS)(k:Kk)(T T':Nat)(a b:AV):Prop:=match look τ.slcs T,look τ.ones T',o.dst with
 |some (e,1,8),some c,some d=>match τ.zero e,kQ' c,Nat.ble (d+1) n with
  |some [.int .i64 0],some .i64,true=>match a,b with
   | .c (.row j),.c (.p (.int .i64 m))=>match look A.m j with
    |some (.rw e' 1 l)=>match Nat.beq e' e with
     |true=>rD l m λi=>k [(d,.c (.row d))] [(d,.rw e 1 (l++List.replicate i [.int .i64 0])),(j,.dead)] [d]
     |false=>False
    |_=>False
   |_,_=>False
  |_,_,_=>False
 |_,_,_=>False
theorem IV{T D:Nat}{x y:Operand}{a b:AV}{c:Call}(p:aS P τ)(B:o.op= .call c)(hc:c.callee= .builtin .append)(E:c.args.toList=[x,y])(Y:c.argTypes= #[T,D])(ha:ao A x=some a)(F:Lv A a.refs)(hb:ao A y=some b)(H:Lv A b.refs)(h:yk τ n o A k T D a b):cv w0 X C0 P τ n o A k:=by
 have r:x∈av' o.op:=by rw[B];simp[av',E]
 have I:y∈av' o.op:=by rw[B];simp[av',E]
 unfold yk at h;split at h
 ·rename_i e Z d hs t hd
  split at h
  ·rename_i hz L hn
   obtain⟨dt,a0,M,_,_,_,_,_,_,hj⟩:=p.ones D Z t;obtain rfl:=hj _ L;split at h
   ·rename_i j m
    split at h
    ·rename_i e' l hm
     split at h
     ·rename_i he
      obtain rfl:=QJ he;obtain⟨i,rfl,i0,i1,hl,h⟩:=h.go;refine yi hd hn h (λy N=>by rw[(List.mem_replicate.1 N).2];rfl) (λi x O=>(bI O).2) λA' s w C ρ Q R=>?_;have z:=Q.at (pR B hc) r ha (by simp[AV.refs,AC.refs]) hm;obtain⟨_,v,hv,S⟩:=R.op Q r ha F;have S:v=ρ j:=S;subst S;obtain⟨_,u,hu,f⟩:=R.op Q I hb H;have f:RV C (.int .i64 i) u:=f;cases f;obtain⟨U,W,g2,g3,g4⟩:=R.ent j _ z;refine⟨ρ j,U,List.replicate i [.int .i64 0],g2,g3,g4,λg hg=>⟨j,_,mF _ _ _,z,rfl,by rw[mD W.1];exact hg⟩,Ud,λq us y O N=>?_,λK kp hK=>?_⟩
      ·obtain rfl:=(List.mem_replicate.1 (JQ O)).2
       obtain rfl:=(List.mem_replicate.1 (JQ N)).2;refine⟨rfl,λj y u t V=>?_⟩
       match j,t,V with
       |0,rfl,rfl=>exact⟨rfl,.int _ _⟩
      ·unfold aV
       simp only[B,hc,E];refine rz hv hu ?_;simp only[Y];refine IT p hs hz M 0 W.1 i i0 i1 hl (KV _) λv' w' t V h3=>hK v' w' ?_ V (yj h3);rw[List.length_replicate,List.flatten_replicate_singleton];exact t
     ·exact h.elim
    ·exact h.elim
   ·exact h.elim
  ·exact h.elim
 ·exact h.elim
theorem RV.cut{l:List (List PV)}{T e sz bs:Nat}(M:look τ.slcs T=some (e,sz,bs)){t:Option Addr}{c p q:Nat}(h:RV C (.sl l) (.slice t l.length c))(hsz:∀x∈l,x.length=sz)(h1:p<=q)(h2:q<=l.length):RV C (.sl ((l.take q).drop p)) (sliced t p q c sz):=by
 have B:((l.take q).drop p).length=q-p:=by rw[VK,VJ];omega
 unfold sliced
 by_cases D:q-p=0
 ·have e:(l.take q).drop p=[]:=List.length_eq_zero_iff.1 Uo
  rw[e,D];exact .nil _ _
 ·generalize E:Value.slice t l.length c=v at h
  cases h with
  |nil a F=>simp at h2;omega
  |sl _ r b o F f z N H I=>
   injection E with K _ L
   subst K L;have d:=List.getElem_mem (l:=l) (n:=0) Uo;have e:r=sz:=by
    have:=z _ d;have:=hsz _ d;omega
   subst e;rw[KY Uo,Option.map_some,pN,<- B];have g:∀(i:Nat) x,((l.take q).drop p)[i]?=some x ->l[p+i]?=some x:=λi x d=>by
    rw[List.getElem?_drop,List.getElem?_take]at d;split at d
    ·exact d
    ·cases d
   refine .sl _ r b (o+p*r) _ (λi j=>f (p+i) j) (λx d=>z x (List.mem_of_mem_take (List.mem_of_mem_drop d))) Uo (λi j x y d u=>?_) λi j x y d u=>I _ _ x y (g i x d) u;have:=H _ _ x y (g i x d) u
   rwa [Nat.add_mul,<- Nat.add_assoc]at this
theorem ug{a:AV}{i:Int}(h:ioV a=some i):∃j,a= .c (.p (.int j i)):=by
 unfold ioV at h;split at h
 ·rename_i j m
  obtain rfl:=JB h;exact⟨j,rfl⟩
 ·cases h
theorem IW(h:Rp w0 X C0 A' s w C ρ){a:AV}(i:∀k∈a.refs,look A'.m k=look A.m k){l:List (List PV)}(he:oU A a=some l){v:Value}(c:RA C ρ a v):∃C',Rp w0 X C0 (A'.upd [] (bJ A a.refs)) s w C' ρ/\(∀b o v,C b o v ->C' b o v)/\RV C' (.sl l) v:=by
 obtain⟨C',p,d,g⟩:=h.frz a.refs i;refine⟨C',p,d,?_⟩;unfold oU at he;split at he
 ·obtain rfl:=JB he
  exact RV.mono d c
 ·obtain rfl:=JB he
  exact(RV.nz (RV.mono d c):RV C' (PV.nz (.raw (.slice none 0 0))) v)
 ·rename_i j
  have c:v=ρ j:=c;subst c;split at he
  ·rename_i e q r f
   obtain rfl:=JB he;exact g j (by simp[AV.refs,AC.refs]) _ (.inl ⟨e,q,f⟩)
  ·rename_i r f
   obtain rfl:=JB he;exact g j (by simp[AV.refs,AC.refs]) _ (.inr f)
  ·cases he
 ·cases he
theorem ui{T:Nat}{x:Operand}{a:AV}{lo hi:Option Operand}{la ha:Option AV}(Y:aS P τ)(Q:o.op= .slice T x lo hi none)(hx:ao A x=some a)(hl:Lv A a.refs)
  (g:match lo,la with
   |some y,some b=>ao A y=some b/\Lv A b.refs
   |none,none=>True
   |_,_=>False) (r:match hi,ha with
   |some y,some b=>ao A y=some b/\Lv A b.refs
   |none,none=>True
   |_,_=>False) (h:yf τ n o A k T a la ha):cv w0 X C0 P τ n o A k:=by
 have U:x∈av' o.op:=by rw[Q];simp[av']
 have I:∀{e Z bs:Nat} {l:List (List PV)} {p q:Nat},look τ.slcs T=some (e,Z,bs) ->oU A a=some l ->p<=q ->q<=l.length ->(∀x∈l,x.length=Z) ->(fin n o.dst (.c (.p (.sl ((l.take q).drop p)))) λwr=>k wr (bJ A a.refs) []) ->
   (∀A' s w C ρ,Agr (iS' o.op) A A' (av' o.op) ->Rp w0 X C0 A' s w C ρ ->∀(V:Option Addr) (c:Nat) (K:St ->World ->Prop) (kp:List PanicEntry ->St ->World ->Prop),ev s.e x=some (.slice V l.length c) ->l.length<=c ->(put n s o.dst (sliced V p q c Z) λs'=>K s' w) ->aV P τ n o s w K kp) ->cv w0 X C0 P τ n o A k:=λ{e Z bs l p q} N B a1 hq a2 h H=>by
  obtain⟨wr,hk,hw,a0⟩:=kA h;refine⟨wr,_,[],hk,λA' s w K kp O _ F hK=>?_⟩;obtain⟨C,ρ,F⟩:=F;obtain⟨_,v,hv,hr⟩:=F.op O U hx hl;obtain⟨C1,a3,a7,R⟩:=IW F (O.m (by rw[Q];rfl) x U a hx) B hr;obtain⟨V,c,rfl⟩:=RV.slv R;have S:l.length<=c:=by
   generalize a4:Value.slice V l.length c=v at R
   cases R with
   |nil a c'=>simp
   |sl _ a8 b o c' f g1 g2 g3 g4=>injection a4 with _ _ e2;omega
  refine H A' s w C ρ O F V c K kp hv S (a0 s _ _ λs' D E W=>hK s' w ⟨C1,ρ,?_⟩ W);refine a3.slots (wr:=wr) (s':=s') (λt b hb _=>⟨_,D t b hb,?_⟩) E;have:=hw t b hb;subst this;exact RV.cut N R a2 a1 hq
 unfold yf at h;split at h
 ·rename_i e Z bs l y N B
  split at h
  ·rename_i i L
   replace h:=h.go
   obtain⟨p,q,D,E,W,h4,h5,h⟩:=h;obtain⟨j,rfl⟩:=ug L;have D:i=(p:Int):=D;have E:q=l.length:=E;cases lo with
   |none=>exact g.elim
   |some yo=>
    cases hi with
    |some z=>exact r.elim
    |none=>
     refine I N B W h4 h5 h λA' s w C ρ O F V c K kp hv S hp=>?_;obtain⟨_,u,hu,d⟩:=F.op O (x:=yo) (by rw[Q];simp[av']) g.1 g.2;have d:RV C (.int j i) u:=d;cases d;unfold aV;simp only[Q];refine aW hv (aW hu ?_);simp only[wvo];rw[E]at hp;exact xy Y N p D Uo hp
  ·exact h.elim
 ·rename_i e Z bs l y N B
  split at h
  ·rename_i i L
   replace h:=h.go
   obtain⟨p,q,D,E,W,h4,h5,h⟩:=h;obtain⟨j,rfl⟩:=ug L;have D:p=0:=D;have E:i=(q:Int):=E;cases lo with
   |some z=>exact g.elim
   |none=>
    cases hi with
    |none=>exact r.elim
    |some yo=>
     refine I N B W h4 h5 h λA' s w C ρ O F V c K kp hv S hp=>?_;obtain⟨_,u,hu,d⟩:=F.op O (x:=yo) (by rw[Q];simp[av']) r.1 r.2;have d:RV C (.int j i) u:=d;cases d;unfold aV;simp only[Q];refine aW hv ?_;simp only[wvo];refine aW hu ?_;rw[D]at hp;exact rt Y N q E Uo hp
  ·exact h.elim
 ·rename_i e Z bs l y z N B
  split at h
  ·rename_i i i' L a5
   replace h:=h.go
   obtain⟨p,q,D,E,W,h4,h5,h⟩:=h;obtain⟨j,rfl⟩:=ug L;obtain⟨j',rfl⟩:=ug a5;have D:i=(p:Int):=D;have E:i'=(q:Int):=E;cases lo with
   |none=>exact g.elim
   |some yo=>
    cases hi with
    |none=>exact r.elim
    |some zo=>
     refine I N B W h4 h5 h λA' s w C ρ O F V c K kp hv S hp=>?_;obtain⟨_,u,hu,d⟩:=F.op O (x:=yo) (by rw[Q];simp[av']) g.1 g.2;obtain⟨_,u',a6,M⟩:=F.op O (x:=zo) (by rw[Q];simp[av']) r.1 r.2;have d:RV C (.int j i) u:=d;have M:RV C (.int j' i') u':=M;cases d;cases M;unfold aV;simp only[Q];refine aW hv (aW hu (aW a6 ?_));simp only[wvo];exact If Y N p q D E W Uo hp
  ·exact h.elim
 ·exact h.elim
end
def rE(v:Value):PV:=match v with
 | .int k m=>.int k m
 | .bool b=>.bool b
 |v=>.raw v
structure yl(bs:Nat)(i j:Int)(k:Nat ->Prop):Prop where
 go:∃m c:Nat,i=(m:Int)/\j=(c:Int)/\m<=c/\bs*c<=281474976710656/\c<=maxLen/\k m
theorem CT{bs:Nat}{i j:Int}{k:Nat ->Prop}(m c:Nat)(b:k m)(h1:i=(m:Int))(h2:j=(c:Int))(a:m<=c:=by omega)(hm:c<=1000000:=by omega)(hb:bs<=1000:=by decide):yl bs i j k:=by
 have:bs*c<=1000*1000000:=Nat.mul_le_mul hb hm;exact⟨m,c,h1,h2,a,Uo,KQ hm UO,b⟩
theorem CU{bs:Nat}{i j:Int}{k:Nat ->Prop}(m:Nat)(a:k m)(h1:i=(m:Int))(h2:j=(m:Int))(hm:m<=1000000:=by omega)(hb:bs<=1000:=by decide):yl bs i j k:=CT m m a h1 h2 (KJ _) hm hb
section
variable(P:Program)(τ:Tau)(n:Nat)(o:Oper)(A:AS)(k:Kk)
def ym(T:Nat)(a b:AV):Prop:=match look τ.slcs T,a,b with
 |some (e,sz,bs),.c (.p (.int .i64 i)),.c (.p (.int .i64 j))=>match τ.zero e with
  |some z=>match Nat.beq z.length sz,Nat.ble 1 sz,bC A (z.map ir),o.dst with
   |true,true,true,some d=>match Nat.ble (d+1) n with
    |true=>yl bs i j λm=>k [(d,.c (.row d))] [(d,.rw e sz (List.replicate m (z.map rE)))] [d]
    |false=>False
   |_,_,_,_=>False
  |none=>False
 |_,_,_=>False
end
theorem uj{α:Type}(z:List α):∀m:Nat,(List.replicate m z).flatten.length=m*z.length
 |0=>Ud
 |m+1=>by rw[List.replicate_succ,List.flatten_cons,JK,uj z m,Nat.succ_mul,Nat.add_comm]
theorem CV(z:List Value):∀m:Nat,gU z m=(List.replicate m z).flatten
 |0=>rfl
 |m+1=>by rw[List.replicate_succ,List.flatten_cons,<- CV z m];rfl
theorem IX{C:Mem}(v:Value):RV C (rE v) v:=by
 unfold rE;split
 ·exact .int _ _
 ·exact .bool _
 ·exact .raw _
section
variable{w0:World}{X:List Nat}{C0:Mem}{P:Program}{τ:Tau}{n:Nat}{o:Oper}{A A':AS}{k:Kk}{s s':St}{w w':World}{C C':Mem}{ρ:Nat ->Value}
theorem IY(F:aS P τ){T:Nat}{x y:Operand}{a b:AV}(H:o.op= .makeSlice T x y)(ha:ao A x=some a)(I:Lv A a.refs)(hb:ao A y=some b)(L:Lv A b.refs)(h:ym τ n o A k T a b):cv w0 X C0 P τ n o A k:=by
 have M:x∈av' o.op:=by rw[H];simp[av']
 have N:y∈av' o.op:=by rw[H];simp[av']
 unfold ym at h;split at h
 ·rename_i e sz bs i j hs
  split at h
  ·rename_i z hz
   split at h
   ·rename_i d f Y h4 hd
    have f:=QJ f;have Y:=QX Y;split at h
    ·rename_i hn
     replace h:=h.go
     obtain⟨m,c,rfl,rfl,l,a0,B,h⟩:=h;refine⟨_,_,_,h,λA' s w K kp Z O r hK=>?_⟩;obtain⟨C,ρ,r⟩:=r;have O:=O d Ud;obtain⟨_,u,D,p⟩:=r.op Z M ha I;obtain⟨_,v,hv,q⟩:=r.op Z N hb L;have p:RV C (.int .i64 (m:Int)) u:=p;have q:RV C (.int .i64 (c:Int)) v:=q;cases p;cases q;have Q:=tZ (C:=C) (ρ:=ρ) h4;unfold aV;simp only[H];refine aW D (aW hv<|Cv F hs hz m c rfl rfl l Uo Uo B λb w' hb hB a1 R=>?_);rw[hd];unfold put;simp only[hn];obtain⟨e0,ds⟩:=s;rw[CV]at hB;refine hK _ _ ⟨C,jX ρ d (.slice (some ⟨b,0,none⟩) m c),r.fresh (wr:=[(d,.c (.row d))]) (x:=.rw e sz (List.replicate m (z.map rE))) O R (λg hg=>?_) ⟨List.replicate m z,?_,λx S=>?_,Ud,λi us x hi S=>?_⟩ (λt a E=>?_) λt E=>?_⟩ rfl
     ·obtain rfl:b=g:=JB hg
      omega
     ·rw[gj,List.length_replicate]
      refine xF (base:=w0.heap.size) ⟨by rw[uj,f],.inr ⟨b,c,(List.replicate c z).flatten.toArray,rfl,by rw[hb];exact r.kp.size,hB,l,B,by simp[uj,f],?_⟩⟩ (KJ _);rw[show (List.replicate c z).flatten=(List.replicate m z).flatten++(List.replicate (c-m) z).flatten by rw[<- List.flatten_append,List.replicate_append_replicate,Nat.add_sub_cancel' l]];simp[uj,f]
     ·obtain rfl:=(List.mem_replicate.1 S).2
      simpa using f
     ·have U:us=z:=by
       have:=JQ hi;exact(List.mem_replicate.1 this).2
      have V:x=z.map rE:=by
       have:=JQ S;exact(List.mem_replicate.1 this).2
      subst U V;refine⟨f,λj y u hy D=>?_⟩;rw[JX,D]at hy;obtain rfl:=JB hy;exact⟨(Q.2 j _ u (by rw[JX,D];rfl) D).1,IX u⟩
     ·obtain⟨rfl,rfl⟩:=bI E
      refine⟨.slice (some ⟨b,0,none⟩) m c,?_,(gj _ _ _).symm⟩;rw[eV,Nat.beq_refl]
     ·rw[cI]at E
      rw[eV];cases W:Nat.beq d t with
      |true=>rw[W]at E;cases E
      |false=>rfl
    ·exact h.elim
   ·exact h.elim
  ·exact h.elim
 ·exact h.elim
end
def AC.ren(f:Nat ->Nat):AC ->AC
 | .row k=>.row (f k)
 | .ptr k o=>.ptr (f k) o
 | .rp k sz j o=>.rp (f k) sz j o
 | .fn g ks=>.fn g (ks.map f)
 | .fr u g ks=>.fr u g (ks.map f)
 | .rv u k=>.rv u (f k)
 |x=>x
def AV.ren(f:Nat ->Nat):AV ->AV
 | .c x=>.c (x.ren f)
 | .agg cs=>.agg (cs.map (AC.ren f))
 | .tp cs=>.tp (cs.map (AC.ren f))
def SE.ren(f:Nat ->Nat):SE ->SE
 | .st g T cs=>.st g T (cs.map (AC.ren f))
 |x=>x
theorem uk(f:Nat ->Nat)(x:AC):(x.ren f).refs=x.refs.map f:=by cases x<;>rfl
theorem CW(f:Nat ->Nat)(l:List AC):refsL (l.map (AC.ren f))=(refsL l).map f:=by
 induction l with
 |nil=>rfl
 |cons x r a=>
  show (x.ren f).refs++refsL (r.map (AC.ren f))=(x.refs++refsL r).map f;rw[uk,a,KB]
theorem IZ(f:Nat ->Nat)(a:AV):(a.ren f).refs=a.refs.map f:=by
 cases a with
 |c x=>exact uk f x
 |agg b=>exact CW f b
 |tp b=>exact CW f b
theorem RC.ren_iff{C:Mem}{ρ:Nat ->Value}{f:Nat ->Nat}{c:AC}{v:Value}:RC C ρ (c.ren f) v↔RC C (λk=>ρ (f k)) c v:=by
 cases c with
 |fn g a=>
  simp only[AC.ren,RC,List.map_map];exact Iff.rfl
 |fr u g a=>
  simp only[AC.ren,RC,List.map_map];exact Iff.rfl
 |_=>exact Iff.rfl
theorem RC.ren{C:Mem}{ρ:Nat ->Value}{f:Nat ->Nat}{c:AC}{v:Value}(h:RC C ρ (c.ren f) v):RC C (λk=>ρ (f k)) c v:=RC.ren_iff.1 h
theorem RA.ren_iff{C:Mem}{ρ:Nat ->Value}{f:Nat ->Nat}{a:AV}{v:Value}:RA C ρ (a.ren f) v↔RA C (λk=>ρ (f k)) a v:=by
 have g:∀(b:List AC) (d:List Value),(d.length=(b.map (AC.ren f)).length/\∀(i:Nat) c u,(b.map (AC.ren f))[i]?=some c ->d[i]?=some u ->RC C ρ c u)↔(d.length=b.length/\∀(i:Nat) c u,b[i]?=some c ->d[i]?=some u ->RC C (λk=>ρ (f k)) c u):=λb d=>by
  rw[KF];refine and_congr_right λ_=>⟨λh i c u e j=>RC.ren_iff.1 (h i _ u (by rw[JX,e];rfl) j),λh i c u e j=>?_⟩
  rw[JX]at e;cases l:b[i]? with
  |none=>rw[l]at e;cases e
  |some x=>
   rw[l]at e;obtain rfl:=JB e;exact RC.ren_iff.2 (h i x u l j)
 cases a with
 |c x=>exact RC.ren_iff
 |agg b=>exact exists_congr λd=>and_congr_right λ_=>g b d
 |tp b=>exact exists_congr λd=>and_congr_right λ_=>g b d
theorem oV(f:Nat ->Nat)(x:SE):(x.ren f).mut=x.mut:=by cases x<;>rfl
theorem CX(f:Nat ->Nat)(x:SE):(x.ren f).alive=x.alive:=by cases x<;>rfl
def fj(k:Nat):List Nat ->Bool
 |[]=>false
 |x::r=>match Nat.beq x k with
  |true=>true
  |false=>fj k r
theorem nQ{k:Nat}:∀{l:List Nat},k∈l ->fj k l=true
 |x::r,h=>by
  simp only[fj];cases a:Nat.beq x k with
  |true=>rfl
  |false=>
   rcases List.mem_cons.1 h with h|h
   ·subst h
    rw[Nat.beq_refl]at a;cases a
   ·exact nQ h
theorem rF{k:Nat}:∀{l:List Nat},fj k l=true ->k∈l
 |x::r,h=>by
  simp only[fj]at h;split at h
  ·rename_i a
   simp[QJ a]
  ·simp[rF h]
def keysOf{α:Type}(l:List (Nat×α)):List Nat:=List.rec (motive:=λ_=>List Nat) [] (λp _ ih=>p.1::ih) l
theorem mH{α:Type}(l:List (Nat×α)):keysOf l=l.map (·.1):=by
 induction l with
 |nil=>rfl
 |cons p r a=>exact KG (p.1:: ·) a
def kD(l:List (Nat×SE)):List Nat:=List.rec (motive:=λ_=>List Nat) [] (λp _ ih=>p.2.refs++ih) l
theorem iN{α:Type}{l:List (Nat×α)}{k:Nat}(h:look l k≠none):k∈keysOf l:=by
 induction l with
 |nil=>exact absurd rfl h
 |cons p r b=>
  obtain⟨q,y⟩:=p;show k∈q::keysOf r;rw[cI]at h;cases a:Nat.beq q k with
  |true=>simp[QJ a]
  |false=>
   rw[a]at h;simp[b h]
theorem CY{l:List (Nat×SE)}{p:Nat×SE}(h:p∈l){k:Nat}(a:k∈p.2.refs):k∈kD l:=by
 induction l with
 |nil=>cases h
 |cons q r b=>
  show k∈q.2.refs++kD r;rcases List.mem_cons.1 h with rfl|h
  ·exact QW _ a
  ·exact QV _ (b h)
def da(f:Nat ->Nat)(l:List Nat):Bool:=List.rec (motive:=λ_=>Bool) true (λk r ih=>match fj (f k) (r.map f)with
 |true=>false
 |false=>ih) l
theorem um{f:Nat ->Nat}:∀{l:List Nat},da f l=true ->∀j∈l,∀k∈l,f j=f k ->j=k
 |q::r,h,j,t,k,d,e=>by
  have h:(match fj (f q) (r.map f)with
   |true=>false
   |false=>da f r)=true:=h
  split at h
  ·cases h
  ·rename_i g
   have i:∀x∈r,f q≠f x:=λx u e=>by
    rw[nQ (by rw[e];exact QD u)]at g;cases g
   rcases List.mem_cons.1 t with p|b
   ·rcases List.mem_cons.1 d with c|a
    ·rw[p,c]
    ·exact absurd (p▸e) (i k a)
   ·rcases List.mem_cons.1 d with c|a
    ·exact absurd (c▸e).symm (i j b)
    ·exact um h j b k a e
theorem oW{α:Type}{l:List (Nat×α)}{f:Nat ->Nat}(hi:da f (keysOf l)=true){k:Nat}{x:α}(h:(k,x)∈l):look l k=some x:=by
 induction l with
 |nil=>cases h
 |cons p r c=>
  obtain⟨q,y⟩:=p;have a:(match fj (f q) ((keysOf r).map f)with
   |true=>false
   |false=>da f (keysOf r))=true:=hi
  split at a
  ·cases a
  rename_i b;rw[cI];rcases List.mem_cons.1 h with h|h
  ·injection h with d e
   subst d e;rw[Nat.beq_refl]
  ·cases g:Nat.beq q k with
   |true=>
    obtain rfl:=QJ g;rw[nQ (QD (by rw[mH];exact QD (f:=(·.1)) h))]at b;cases b
   |false=>exact c a h
def ja':List AV ->Nat ->List (Nat×AV)
 |[],_=>[]
 |a::r,i=>(i,a)::ja' r (i+1)
def VG(P:Program)(f:FuncId)(aes:List AV)(m:List (Nat×SE))(r:Except (List PanicEntry) (AV×List (Nat×SE))):Prop:=
 dM P f/\∀(w:World) (X:List Nat) (C:Mem) (ρ:Nat ->Value) (vs:List Value),vs.length=aes.length ->Rp w X C ⟨ja' aes 0,m⟩ ⟨ini vs 0,[]⟩ w C ρ ->
  Calls P f vs.toArray w λe w'=>match (generalizing:=false) r with
   | .ok q=>∃v C' ρ',e= .returned v/\Rp w X C ⟨[(0,q.1)],q.2⟩ ⟨[(0,v)],[]⟩ w' C' ρ'
   | .error ch=>e= .panicked ch/\Kp X w w'
def SE.fl:SE ->Option Nat
 | .st g _ _=>some g
 | .ob g _=>some g
 |_=>none
def SE.inf(g:Nat):SE ->SE
 | .st _ T cs=>.st g T cs
 | .ob _ Q=>.ob g Q
 |x=>x
def SE.isSt:SE ->Bool
 | .st _ _ _=>true
 |_=>false
def sp':Option SE ->Nat
 |some (.st g _ _)=>g
 |some (.ob g _)=>g
 |_=>0
def lD(m:List (Nat×SE)):Nat ->Bool:=List.rec (motive:=λ_=>Nat ->Bool) (λ_=>true) (λp _ ih i=>match p.2.fl with
 |some g=>match Nat.beq g (i+1)with
  |true=>ih (i+1)
  |false=>false
 |none=>ih i) m
def rG(m:List Nat)(l:List Nat):List Nat:=List.rec (motive:=λ_=>List Nat) [] (λk _ ih=>match fj k m with
 |true=>ih
 |false=>k::ih) l
def newK(m m':List (Nat×SE)):List Nat:=rG (keysOf m) (keysOf m')
def yn(m m':List (Nat×SE)):List Nat:=rG (keysOf m') (keysOf m)
def jY(m:List (Nat×SE))(l:List (Nat×SE)):Bool:=List.rec (motive:=λ_=>Bool) true (λp _ ih=>match look m p.1 with
 |some x=>match p.2.fl,x.fl with
  |some g,some g'=>match Nat.beq g g',p.2.isSt,x.isSt with
   |true,true,true=>ih
   |true,false,false=>ih
   |_,_,_=>false
  |_,_=>match p.2.alive with
   |true=>false
   |false=>ih
 |none=>match p.2.fl with
  |some 0=>ih
  |none=>ih
  |_=>false) l
def jh(fg:Nat ->Nat)(h:Nat ->Nat)(m m':List (Nat×SE)):List (Nat×SE):=m'.map (λp=>(h p.1,(p.2.ren h).inf (fg (h p.1))))++(yn m m').map λk=>(h k,SE.dead)
theorem mI{m l:List Nat}{k:Nat}:k∈rG m l↔k∈l/\k ∉ m:=by
 induction l with
 |nil=>exact⟨λh=>(by cases h),λh=>by cases h.1⟩
 |cons x r d=>
  show k∈(match fj x m with
   |true=>rG m r
   |false=>x::rG m r)↔_
  cases c:fj x m with
  |true=>
   have:=rF c;simp only[d,JJ];constructor
   ·rintro⟨b,a⟩;exact⟨.inr b,a⟩
   ·rintro⟨rfl|b,a⟩
    ·exact absurd this a
    ·exact⟨b,a⟩
  |false=>
   simp only[JJ,d];constructor
   ·rintro(rfl|⟨b,a⟩)
    ·exact⟨.inl rfl,λh=>by rw[nQ h]at c;cases c⟩
    ·exact⟨.inr b,a⟩
   ·rintro⟨rfl|b,a⟩
    ·exact .inl rfl
    ·exact .inr ⟨b,a⟩
theorem uo{m l:List (Nat×SE)}(h:jY m l=true):∀p∈l,(∀x,look m p.1=some x ->(∃g,p.2.fl=some g/\x.fl=some g/\p.2.isSt=x.isSt) \/p.2.alive=false)/\(look m p.1=none ->p.2.fl=some 0 \/p.2.fl=none):=by
 induction l with
 |nil=>intro p e;cases e
 |cons q r B=>
  have h:(match look m q.1 with
   |some x=>match q.2.fl,x.fl with
    |some g,some u=>match Nat.beq g u,q.2.isSt,x.isSt with
     |true,true,true=>jY m r
     |true,false,false=>jY m r
     |_,_,_=>false
    |_,_=>match q.2.alive with
     |true=>false
     |false=>jY m r
   |none=>match q.2.fl with
    |some 0=>jY m r
    |none=>jY m r
    |_=>false)=true:=h
  have f:jY m r=true/\((∀x,look m q.1=some x ->(∃g,q.2.fl=some g/\x.fl=some g/\q.2.isSt=x.isSt) \/q.2.alive=false)/\(look m q.1=none ->q.2.fl=some 0 \/q.2.fl=none)):=by
   split at h
   ·rename_i x c
    split at h
    ·rename_i g u d v
     split at h
     ·rename_i i j t
      obtain rfl:=QJ i;exact⟨h,λy a=>.inl (by rw[c]at a;obtain rfl:=JB a;exact⟨g,d,v,by rw[j,t]⟩),λb=>by rw[c]at b;cases b⟩
     ·rename_i i j t
      obtain rfl:=QJ i;exact⟨h,λy a=>.inl (by rw[c]at a;obtain rfl:=JB a;exact⟨g,d,v,by rw[j,t]⟩),λb=>by rw[c]at b;cases b⟩
     ·cases h
    ·split at h
     ·cases h
     ·rename_i D
      exact⟨h,λy a=>.inr D,λb=>by rw[c]at b;cases b⟩
   ·rename_i c
    have z:∀x,look m q.1=some x ->(∃g,q.2.fl=some g/\x.fl=some g/\q.2.isSt=x.isSt) \/q.2.alive=false:=λy a=>by rw[c]at a;cases a
    split at h
    ·rename_i d
     exact⟨h,z,λ_=>.inl d⟩
    ·rename_i d
     exact⟨h,z,λ_=>.inr d⟩
    ·cases h
  intro p e;rcases List.mem_cons.1 e with rfl|e
  ·exact f.2
  ·exact B f.1 p e
def nR(ρ:Nat ->Value)(m:List (Nat×SE)):List Nat:=List.rec (motive:=λ_=>List Nat) [] (λp _ ih=>match p.2.fl with
 |some _=>(blk (ρ p.1)).getD 0::ih
 |none=>ih) m
def rH(ρ:Nat ->Value)(m:List (Nat×SE)):List Nat:=List.rec (motive:=λ_=>List Nat) [] (λp _ ih=>match p.2.fl,p.2.mut,blk (ρ p.1)with
 |none,true,some g=>g::ih
 |_,_,_=>ih) m
theorem oX{ρ:Nat ->Value}:∀{m:List (Nat×SE)} {i:Nat},lD m i=true ->∀p∈m,∀g,p.2.fl=some g ->∃q,g=i+q+1/\(nR ρ m)[q]?=some ((blk (ρ p.1)).getD 0)
 |x::r,i,h,p,a,g,b=>by
  have h:(match x.2.fl with
   |some g=>match Nat.beq g (i+1)with
    |true=>lD r (i+1)
    |false=>false
   |none=>lD r i)=true:=h
  have e:nR ρ (x::r)=(match x.2.fl with
   |some _=>(blk (ρ x.1)).getD 0::nR ρ r
   |none=>nR ρ r):=rfl
  rw[e];split at h
  ·rename_i l c
   split at h
   ·rename_i j
    obtain rfl:=QJ j;rcases List.mem_cons.1 a with rfl|a
    ·rw[c]at b
     obtain rfl:=JB b;exact⟨0,rfl,rfl⟩
    ·obtain⟨q,f,d⟩:=oX h p a g b
     exact⟨q+1,Uo,d⟩
   ·cases h
  ·rename_i c
   rcases List.mem_cons.1 a with rfl|a
   ·rw[c]at b;cases b
   ·obtain⟨q,f,d⟩:=oX h p a g b
    exact⟨q,f,d⟩
theorem I0{ρ:Nat ->Value}{m:List (Nat×SE)}{z:Nat}(h:z∈nR ρ m):∃p∈m,∃g,p.2.fl=some g/\z=(blk (ρ p.1)).getD 0:=by
 induction m with
 |nil=>cases h
 |cons x r c=>
  have h:z∈(match x.2.fl with
   |some _=>(blk (ρ x.1)).getD 0::nR ρ r
   |none=>nR ρ r):=h
  split at h
  ·rename_i g d
   rcases List.mem_cons.1 h with rfl|h
   ·exact⟨x,Ud,g,d,rfl⟩
   ·obtain⟨p,a,b⟩:=c h
    exact⟨p,by simp[a],b⟩
  ·obtain⟨p,a,b⟩:=c h
   exact⟨p,by simp[a],b⟩
theorem CZ{ρ:Nat ->Value}{m:List (Nat×SE)}{z:Nat}:z∈rH ρ m↔∃p∈m,p.2.fl=none/\p.2.mut=true/\blk (ρ p.1)=some z:=by
 induction m with
 |nil=>exact⟨λh=>(by cases h),λ⟨p,h,_⟩=>by cases h⟩
 |cons x r d=>
  have e:rH ρ (x::r)=(match x.2.fl,x.2.mut,blk (ρ x.1)with
   |none,true,some g=>g::rH ρ r
   |_,_,_=>rH ρ r):=rfl
  rw[e];constructor
  ·intro h
   split at h
   ·rename_i g a b c
    rcases List.mem_cons.1 h with rfl|h
    ·exact⟨x,Ud,a,b,c⟩
    ·obtain⟨p,a,b⟩:=d.1 h
     exact⟨p,by simp[a],b⟩
   ·obtain⟨p,a,b⟩:=d.1 h
    exact⟨p,by simp[a],b⟩
  ·rintro⟨p,f,a,b,c⟩
   rcases List.mem_cons.1 f with rfl|f
   ·simp[a,b,c]
   ·have:=d.2 ⟨p,f,a,b,c⟩
    split
    ·simp[this]
    ·exact this
def SE.alike(x y:SE):Prop:=x.inf 0=y.inf 0
theorem oY{x y:SE}(h:x.alike y):(x.fl=none↔y.fl=none)/\x.mut=y.mut/\x.alive=y.alive/\x.isSt=y.isSt:=by
 unfold SE.alike at h;cases x<;>cases y<;>simp_all [SE.inf,SE.fl,SE.mut,SE.alive,SE.isSt]
theorem rI{x:SE}{g:Nat}(h:x.fl=some g):x.mut=true/\x.alive=true:=by cases x<;>first|exact⟨rfl,rfl⟩|cases h
theorem C4(f:Nat ->Nat)(x:SE):(x.ren f).fl=x.fl/\(x.ren f).isSt=x.isSt:=by cases x<;>exact⟨rfl,rfl⟩
theorem I1{x:SE}{g:Nat}(h:x.fl=some g):x.fl=some (sp' (some x)):=by cases x<;>first|rfl|cases h
theorem yp{lo:Nat}{X:List Nat}{A:AS}{C:Mem}{ρ:Nat ->Value}{w:World}{k g:Nat}{x:SE}(h:RE lo X A C ρ w k x)(a:x.fl=some g):∃b,blk (ρ k)=some b/\Ori lo X g b/\ρ k=bif x.isSt then .pointer (some ⟨b,0,none⟩)else .map (some b):=by
 cases x with
 |st d T f=>
  obtain rfl:=JB a;obtain⟨b,i,e,_,c,_⟩:=h;exact⟨b,by rw[e];rfl,c,e⟩
 |ob d Q=>
  obtain rfl:=JB a;obtain⟨b,o,e,_,_,c⟩:=h;exact⟨b,by rw[e];rfl,c,e⟩
 |_=>cases a
theorem rJ{h:Nat ->Nat}:∀{l r:List Nat},da h (l++r)=true ->da h l=true
 |[],r,_=>rfl
 |x::l,r,a=>by
  have a:(match fj (h x) ((l++r).map h)with
   |true=>false
   |false=>da h (l++r))=true:=a
  show (match fj (h x) (l.map h)with
   |true=>false
   |false=>da h l)=true
  split at a
  ·cases a
  ·rename_i b
   cases c:fj (h x) (l.map h)with
   |true=>
    rw[nQ (by rw[KB];exact QW _ (rF c))]at b;cases b
   |false=>exact rJ a
section
variable{w0:World}{X0:List Nat}{C0:Mem}{A:AS}{s s':St}{w w':World}{C C':Mem}{ρ ρ':Nat ->Value}{h:Nat ->Nat}{m m':List (Nat×SE)}
def Ents(A:AS)(h:Nat ->Nat)(m:List (Nat×SE)):Prop:=∀p∈m,∃x,look A.m (h p.1)=some x/\x.alike (p.2.ren h)
def blksG(ρ:Nat ->Value)(m:List (Nat×SE)):List Nat:=nR ρ m++rH ρ m
theorem C5(j:Rp w0 X0 C0 A s w C ρ)(i:Ents A h m){z:Nat}(c:z∈blksG (λk=>ρ (h k)) m):∃p∈m,∃x,look A.m (h p.1)=some x/\x.mut=true/\blk (ρ (h p.1))=some z:=by
 rcases List.mem_append.1 c with c|c
 ·obtain⟨p,d,g,v,rfl⟩:=I0 c
  obtain⟨x,e,f⟩:=i p d;obtain⟨l,y,B,_⟩:=oY f;cases a:x.fl with
  |none=>
   have:=l.1 a;cases q:p.2<;>simp_all [SE.ren,SE.fl]
  |some D=>
   obtain⟨b,r,_⟩:=yp (j.ent _ _ e) a;exact⟨p,d,x,e,(rI a).1,by rw[r];rfl⟩
 ·obtain⟨p,d,E,t,u⟩:=CZ.1 c
  obtain⟨x,e,f⟩:=i p d;exact⟨p,d,x,e,by rw[(oY f).2.1,oV];exact t,u⟩
theorem Rp.into(R:Rp w0 X0 C0 A s w C ρ)(N:Ents A h m)(hi:da h (keysOf m)=true)(hf:lD m 0=true){bs:List AV}{vs:List Value}(hl:vs.length=bs.length)(ha:∀(i:Nat) b v,bs[i]?=some b ->vs[i]?=some v ->RA C (λk=>ρ (h k)) b v):Rp w (blksG (λk=>ρ (h k)) m) C ⟨ja' bs 0,m⟩ ⟨ini vs 0,[]⟩ w C λk=>ρ (h k):=by
 have V:∀l:List Nat,Lv ⟨ja' bs 0,m⟩ l ->Lv A (l.map h):=λl hl k p=>by
  obtain⟨j,S,rfl⟩:=List.mem_map.1 p;obtain⟨y,f,z⟩:=hl j S;obtain⟨x,E,F⟩:=N _ (dj f);exact⟨x,E,by rw[(oY F).2.2.1,CX];exact z⟩
 have sl:∀(B:List AV) (H:List Value) (i t:Nat) (a:AV),H.length=B.length ->look (ja' B i) t=some a ->∃q v,t=i+q/\B[q]?=some a/\H[q]?=some v/\get (ini H i) t=some v:=by
  intro B
  induction B with
  |nil=>intro H i t a _ I;cases I
  |cons b r ih=>
   intro H i t a hl I
   match H,hl with
   |u::H,hl=>
    simp only[ja',cI]at I;simp only[ini,eV];cases W:Nat.beq i t with
    |true=>
     rw[W]at I;obtain rfl:=QJ W;exact⟨0,u,rfl,I,rfl,rfl⟩
    |false=>
     rw[W]at I;obtain⟨q,v,f,z,E,F⟩:=ih H (i+1) t a (by simpa using hl) I;exact⟨q+1,v,Uo,z,E,F⟩
 refine⟨λt a I _=>?_,λk y p=>?_,λj k x y g Y S Z p a0 O=>?_,λk x g b o v p hm O=>?_,R.sub,λ_ _ _ h=>h,λ_ _ _ h=>.inl ⟨_,_,h⟩,Kp.refl _ _⟩
 ·obtain⟨q,v,_,z,E,F⟩:=sl bs vs 0 t a hl I
  exact⟨v,F,ha q a v z E⟩
 ·obtain⟨x,hx,d⟩:=N _ (dj p)
  have U:=R.ent _ _ hx;cases y with
  |st g T cs=>
   cases x with
   |st g0 T0 a1=>
    have d:SE.st 0 T0 a1=SE.st 0 T (cs.map (AC.ren h)):=d;injection d with _ K e2
    subst K e2;obtain⟨b,H,f,z,E,F,h5⟩:=U;obtain⟨q,a2,D⟩:=oX (ρ:=λk=>ρ (h k)) hf _ (dj p) g rfl;refine⟨b,H,f,z,.inr ⟨q,Uo,?_⟩,by simpa using F,λi c u hc hu=>?_⟩
    ·have f:ρ (h k)= .pointer (some ⟨b,0,none⟩):=f
     unfold blksG;rw[QH (List.getElem?_eq_some_iff.1 D).1,D,f]
     rfl
    ·obtain⟨o1,o2⟩:=h5 i (c.ren h) u (by rw[JX,hc];rfl) hu
     exact⟨o1,λhl=>RC.ren (o2 (by rw[uk];exact V _ hl))⟩
   |_=>cases d
  |rw e sz l=>
   cases x with
   |rw e0 a3 l0=>
    have d:SE.rw e0 a3 l0=SE.rw e sz l:=d;injection d with K e2 e3
    subst K e2 e3;obtain⟨a4,f,z,E,F⟩:=U;exact⟨a4,⟨f.1,λg O=>.inr (QV _ (CZ.2 ⟨_,dj p,rfl,rfl,O⟩))⟩,z,E,F⟩
   |_=>cases d
  |fz l=>
   cases x with
   |fz l0=>
    have d:SE.fz l0=SE.fz l:=d;injection d with K
    subst K;exact U
   |_=>cases d
  |ob g Q=>
   cases x with
   |ob g0 Q0=>
    have d:SE.ob 0 Q0=SE.ob 0 Q:=d;injection d with _ K
    subst K;obtain⟨b,o,f,z,E,F⟩:=U;obtain⟨q,a2,D⟩:=oX (ρ:=λk=>ρ (h k)) hf _ (dj p) g rfl;refine⟨b,o,f,z,E,.inr ⟨q,Uo,?_⟩⟩;have f:ρ (h k)= .map (some b):=f;unfold blksG;rw[QH (List.getElem?_eq_some_iff.1 D).1,D,f]
    rfl
   |_=>cases d
  |dead=>exact VQ
 ·obtain⟨x',L,M⟩:=N _ (dj S)
  obtain⟨y',a5,a6⟩:=N _ (dj p);refine R.sep (h j) (h k) x' y' g (λe=>Y (um hi j (iN (by rw[S];simp)) k (iN (by rw[p];simp)) e)) L (by rw[(oY M).2.1,oV];exact Z) a5 (by rw[(oY a6).2.1,oV];exact a0) O
 ·obtain⟨x',L,M⟩:=N _ (dj p)
  exact R.off (h k) x' g b o v L (by rw[(oY M).2.1,oV];exact hm) O
theorem Rp.back(hR:Rp w0 X0 C0 A s w C ρ)(hE:Ents A h m)(hi:da h (keysOf m++newK m m')=true)(a3:da h (keysOf m')=true)(hf:lD m 0=true)(hp:jY m m'=true){a:AV}{v:Value}(c8:gV ⟨[],m'⟩ (a.refs++kD m')=true)(hF:∀k∈(newK m m').map h,NoRef k A){fg:Nat ->Nat}(c9:∀p∈m',p.2.fl≠none ->sp' (look A.m (h p.1))=fg (h p.1))
  (I:Rp w (blksG (λk=>ρ (h k)) m) C ⟨[(0,a)],m'⟩ ⟨[(0,v)],[]⟩ w' C' ρ') {wr:List (Nat×AV)} (ht:∀t b,look wr t=some b ->b=a.ren h/\get s'.e t=some v) (c':∀t,look wr t=none ->get s'.e t=get s.e t):Rep w0 X0 C0 (A.upd wr (jh fg h m m')) s' w':=by
 classical
 have b8:∀j∈keysOf m++newK m m',∀k∈keysOf m++newK m m',h j=h k ->j=k:=um hi;have a5:∀{l:List (Nat×SE)} {p:Nat×SE},p∈l ->p.1∈keysOf l:=λhp=>by rw[mH];exact QD (f:=(·.1)) hp
 have b9:∀{l:List (Nat×SE)} {k:Nat},k∈keysOf l ->∃y,(k,y)∈l:=λE=>by
  rw[mH]at E;obtain⟨p,hp,rfl⟩:=List.mem_map.1 E;exact⟨p.2,hp⟩
 have d':da h (keysOf m)=true:=rJ hi;obtain⟨L,c0⟩:∃L:Nat ->Value,L=λq=>if K:∃j,j∈newK m m'/\h j=q then ρ' K.choose else ρ q:=⟨_,rfl⟩
 have r1:∀j∈newK m m',L (h j)=ρ' j:=λj D=>by
  have K:∃i,i∈newK m m'/\h i=h j:=⟨j,D,rfl⟩
  rw[c0];simp only[dif_pos K];rw[b8 _ (QV _ K.choose_spec.1) _ (QV _ D) K.choose_spec.2]
 have r2:∀q,q ∉ (newK m m').map h ->L q=ρ q:=λq K=>by
  rw[c0];simp only;rw[dif_neg];rintro⟨j,d,rfl⟩;exact K (QD d)
 have e0:∀j∈keysOf m,h j ∉ (newK m m').map h:=λj D E=>by
  obtain⟨i,d,B⟩:=List.mem_map.1 E;obtain rfl:=b8 _ (QV _ d) _ (QW _ D) B;exact(mI.1 d).2 D
 have Y:∀j y,(j,y)∈m' ->j∈keysOf m ->y.alive=true ->∃b g x,y.fl=some g/\look A.m (h j)=some x/\x.fl=some (sp' (some x))/\blk (ρ (h j))=some b/\blk (ρ' j)=some b/\Ori w0.heap.size X0 (sp' (some x)) b/\(L (h j)=ρ' j):=λj y F D M=>by
  obtain⟨y0,b0⟩:=b9 D;have e4:=oW d' b0;have e5:=oW a3 F;obtain⟨c1,_⟩:=uo hp _ F;rcases c1 y0 e4 with ⟨g,e1,e2,e3⟩|e1
  ·obtain⟨x,O,ha⟩:=hE _ b0
   obtain⟨a1,_,_,a4⟩:=oY ha;have a1:x.fl=none↔(y0.ren h).fl=none:=a1;have a4:x.isSt=(y0.ren h).isSt:=a4;rw[(C4 h y0).1]at a1;rw[(C4 h y0).2]at a4;obtain⟨g0,c2⟩:∃g0,x.fl=some g0:=by
    cases K:x.fl with
    |none=>rw[a1.1 K]at e2;cases e2
    |some g0=>exact⟨g0,rfl⟩
   have a6:=I1 c2;obtain⟨b,U,ho,b1⟩:=yp (hR.ent _ _ O) a6;obtain⟨b2,e6,e7,e8⟩:=yp (I.ent j y e5) e1;obtain⟨q,g9,c3⟩:=oX (ρ:=λk=>ρ (h k)) hf _ b0 g e2;have e9:b2=b:=by
    rcases e7 with ⟨h0,_⟩|⟨i,d,B⟩
    ·omega
    ·obtain rfl:i=q:=Uo
     unfold blksG at B;rw[QH (List.getElem?_eq_some_iff.1 c3).1,c3]at B;have:=JB B;have U:blk (ρ (h j))=some b:=U;simp only[U,Option.getD_some]at this;exact this.symm
   subst e9;refine⟨b2,g,x,e1,O,a6,U,e6,ho,?_⟩;rw[r2 _ (e0 j D),e8];have b1:ρ (h j)=bif x.isSt then .pointer (some ⟨b2,0,none⟩)else .map (some b2):=b1
   rw[b1,e3,a4]
  ·rw[M]at e1;cases e1
 have e':∀j∈keysOf m++newK m m',∃x,(h j,x)∈jh fg h m m':=λj D=>by
  by_cases b3:j∈keysOf m'
  ·obtain⟨y,F⟩:=b9 b3
   exact⟨_,QW _ (QD (f:=λp:Nat×SE=>(h p.1,(p.2.ren h).inf (fg (h p.1)))) F)⟩
  ·rcases List.mem_append.1 D with D|D
   ·exact⟨_,QV _ (QD (f:=λk=>(h k,SE.dead)) (mI.2 ⟨D,b3⟩))⟩
   ·exact absurd (mI.1 D).1 b3
 have V:∀j∈keysOf m++newK m m',∃x,look (jh fg h m m') (h j)=some x:=λj D=>by
  obtain⟨x,O⟩:=e' j D;cases K:look (jh fg h m m') (h j)with
  |some x=>exact⟨x,rfl⟩
  |none=>
   exfalso;have:∀l:List (Nat×SE),(h j,x)∈l ->look l (h j)≠none:=λl=>by
    induction l with
    |nil=>intro d;cases d
    |cons p r ih=>
     intro d B;obtain⟨q,y⟩:=p;rw[cI]at B;cases U:Nat.beq q (h j)with
     |true=>rw[U]at B;cases B
     |false=>
      rw[U]at B;rcases List.mem_cons.1 d with d|d
      ·injection d with d
       rw[d,Nat.beq_refl]at U;cases U
      ·exact ih d B
   exact this _ O K
 have a7:∀k x,look (jh fg h m m') k=some x ->(∃j y,(j,y)∈m'/\k=h j/\x=(y.ren h).inf (fg (h j))) \/(∃j∈keysOf m,k=h j/\x= .dead):=λk x E=>by
  rcases List.mem_append.1 (dj E)with d|d
  ·obtain⟨p,B,N⟩:=List.mem_map.1 d
   injection N with N W
   exact .inl ⟨p.1,p.2,B,N.symm,W.symm⟩
  ·obtain⟨j,B,N⟩:=List.mem_map.1 d
   injection N with N W
   exact .inr ⟨j,(mI.1 B).1,N.symm,W.symm⟩
 have H:∀(y:SE) (g:Nat),((y.ren h).inf g).mut=y.mut/\((y.ren h).inf g).alive=y.alive:=λy g=>by cases y<;>exact⟨rfl,rfl⟩
 have R:∀j y,(j,y)∈m' ->y.alive=true ->L (h j)=ρ' j:=λj y F M=>by
  by_cases D:j∈keysOf m
  ·obtain⟨_,_,_,_,_,_,_,_,_,e⟩:=Y j y F D M
   exact e
  ·exact r1 j (mI.2 ⟨a5 F,D⟩)
 have b4:=nM c8;have c4:∀k,k∈a.refs++kD m' ->L (h k)=ρ' k:=λk E=>by
  obtain⟨y,d,B⟩:=b4 k E;exact R k y (dj d) B
 have Z:∀z∈blksG (λk=>ρ (h k)) m,∃j∈keysOf m,∃x,look A.m (h j)=some x/\x.mut=true/\blk (ρ (h j))=some z:=λz S=>by
  obtain⟨p,hp,x,d,B,N⟩:=C5 hR hE S;exact⟨p.1,a5 hp,x,d,B,N⟩
 have a0:∀q x z,look (jh fg h m m') q=none ->look A.m q=some x ->x.mut=true ->(w.heap.size<=z \/z∈blksG (λk=>ρ (h k)) m) ->blk (ρ q)≠some z:=λq x z K O hm S e=>by
  rcases S with S|S
  ·have:=(hR.blk_lt O hm e).1
   omega
  ·obtain⟨j,D,x2,d,B,N⟩:=Z z S
   have b5:q≠h j:=λe1=>by
    obtain⟨x3,W⟩:=V j (QW _ D);rw[e1,W]at K;cases K
   exact hR.sep q (h j) x x2 z b5 O hm d B e N
 have a9:∀j y g,(j,y)∈m' ->y.fl=some g ->∀b,Ori w.heap.size (blksG (λk=>ρ (h k)) m) g b ->blk (ρ' j)=some b ->Ori w0.heap.size X0 (fg (h j)) b:=λj y g F hg b ho U=>by
  rw[<- c9 _ F (by rw[hg];simp)];simp only
  by_cases D:j∈keysOf m
  ·obtain⟨b',_,x,_,O,_,_,c5,f',_⟩:=Y j y F D (rI hg).2
   rw[U]at c5;obtain rfl:=JB c5;rw[O];exact f'
  ·have hn:look m j=none:=by
    cases K:look m j with
    |none=>rfl
    |some x=>exact absurd (iN (by rw[K];simp)) D
   have c2:g=0:=by
    rcases(uo hp _ F).2 hn with d|d
    ·have d:y.fl=some 0:=d
     rw[hg]at d;exact JB d
    ·have d:y.fl=none:=d
     rw[hg]at d;cases d
   have g3:sp' (look A.m (h j))=0:=by
    cases K:look A.m (h j)with
    |none=>rfl
    |some x=>
     have:=(hF (h j) (QD (mI.2 ⟨a5 F,D⟩))).un x K;cases x<;>first|rfl|cases this
   rw[g3];rcases ho with ⟨_,d⟩|⟨i,d,_⟩
   ·exact .inl ⟨rfl,KQ hR.kp.size d⟩
   ·omega
 have a':∀z,(w.heap.size<=z \/z∈blksG (λk=>ρ (h k)) m) ->w0.heap.size<=z \/z∈X0:=λz S=>by
  rcases S with S|S
  ·exact .inl (KQ hR.kp.size S)
  ·obtain⟨j,D,x2,d,B,N⟩:=Z z S
   exact(hR.blk_lt d B N).2
 refine⟨C',L,hR.step ((newK m m').map h) r2 hF (λk E=>?_) (λk x E M=>?_) I.kp (λz S=>?_) I.c0 I.sub (λb o v hc=>?_) (λk x E=>?_) (λk x g E hm hg=>?_) (λt b g4 hl=>?_) c'⟩
 ·obtain⟨j,D,rfl⟩:=List.mem_map.1 E
  exact V j (QV _ D)
 ·rcases a7 k x E with ⟨j,y,F,rfl,rfl⟩|⟨_,_,_,rfl⟩
  ·rw[(H _ _).2]at M
   by_cases D:j∈keysOf m
   ·obtain⟨_,_,x,_,O,a6,_⟩:=Y j y F D M
    exact .inr ⟨x,O,(rI a6).2⟩
   ·exact .inl (QD (mI.2 ⟨a5 F,D⟩))
  ·cases M
 ·obtain⟨j,D,x,d,B,N⟩:=Z z S
  obtain⟨x3,W⟩:=V j (QW _ D);exact⟨h j,x3,x,W,d,B,N⟩
 ·rcases I.cn b o v hc with U|U
  ·exact .inl U
  ·exact .inr ⟨a' b U,λk x E O hm=>a0 k x b E O hm U⟩
 ·rcases a7 k x E with ⟨j,y,F,rfl,rfl⟩|⟨j,D,rfl,rfl⟩
  ·have he:=I.ent j y (oW a3 F)
   cases y with
   |st g T cs=>
    obtain⟨b,us,d,B,N,W,h5⟩:=he;refine⟨b,us,by rw[R j _ F rfl];exact d,B,a9 j _ g F rfl b N (by rw[d];rfl),by rw[KF];exact W,λi c u hc hu=>?_⟩;rw[JX]at hc;cases O:cs[i]? with
    |none=>rw[O]at hc;cases hc
    |some x=>
     rw[O]at hc;obtain rfl:=JB hc;obtain⟨o1,o2⟩:=h5 i x u O hu;have c6:∀k∈x.refs,k∈kD m':=λk E=>CY F (jW (JQ O) E);refine⟨o1,λ_=>RC.ren_iff.2 ((o2 λk E=>b4 k (QV _ (c6 k E))).eqv λk E=>c4 k (QV _ (c6 k E)))⟩
   |rw e sz l=>
    obtain⟨g5,d,B⟩:=he;refine⟨g5,⟨by rw[R j _ F rfl];exact d.1,λg hg=>a' g (d.2 g (by rw[<- R j _ F rfl];exact hg))⟩,B⟩
   |fz l=>
    show RV C' (.sl l) (L (h j));rw[R j _ F rfl];exact he
   |ob g Q=>
    obtain⟨b,o,d,B,N,W⟩:=he;exact⟨b,o,by rw[R j _ F rfl];exact d,B,N,a9 j _ g F rfl b W (by rw[d];rfl)⟩
   |dead=>exact VQ
  ·exact VQ
 ·rcases a7 k x E with ⟨j,y,F,rfl,rfl⟩|⟨_,_,_,rfl⟩
  ·rw[(H _ _).1]at hm
   have M:y.alive=true:=by cases y<;>first|rfl|cases hm
   rw[R j y F M]at hg;have b6:=oW a3 F;refine⟨λq y2 b5 K a2 a8=>?_,λb o v hc=>I.off j y g b o v b6 hm hg hc⟩;rcases look_app_some K with B|⟨b7,B⟩
   ·rcases a7 q y2 B with ⟨j2,z,S,rfl,rfl⟩|⟨_,_,_,rfl⟩
    ·rw[(H _ _).1]at a2
     have c7:z.alive=true:=by cases z<;>first|rfl|cases a2
     rw[R j2 z S c7]at a8;exact I.sep j2 j z y g (λe=>b5 (by rw[e])) (oW a3 S) a2 b6 hm a8 hg
    ·cases a2
   ·have g6:q ∉ (newK m m').map h:=λg7=>by
     obtain⟨i,g8,rfl⟩:=List.mem_map.1 g7;obtain⟨x3,W⟩:=V i (QV _ g8);rw[W]at b7;cases b7
    rw[r2 q g6]at a8;exact a0 q y2 g b7 B a2 (I.blk_lt b6 hm hg).2 a8
  ·cases hm
 ·obtain⟨e,hv⟩:=ht t b g4
  subst e;refine⟨v,hv,RA.ren_iff.2 ?_⟩;obtain⟨v',g1,g2⟩:=I.slot 0 a rfl λk E=>b4 k (QW _ E);obtain rfl:v'=v:=by
   have g1:some v=some v':=g1;exact(JB g1).symm
  exact g2.eqv λk E=>c4 k (QW _ E)
end
def vals(ps:List PV):List AV:=ps.map λx=>.c (.p x)
def C6(A:AS)(h:Nat ->Nat)(a b:AV):Prop:=(match b with
 | .c (.p x)=>oS A a=some x
 |b=>a=b.ren h) \/a=b/\b.refs=[]
def oZ(A:AS)(h:Nat ->Nat):List AV ->List AV ->Prop
 |[],[]=>True
 |a::r,b::s=>C6 A h a b/\oZ A h r s
 |_,_=>False
def kpv:List AV ->List AV ->List Nat
 |a::r,b::s=>(match b with
  | .c (.p _)=>a.refs
  |_=>[])++kpv r s
 |_,_=>[]
def nS(A:AS)(h:Nat ->Nat)(m:List (Nat×SE)):Prop:=List.rec (motive:=λ_=>Prop) True (λp _ ih=>((match look A.m (h p.1)with
 |some x=>some (x.inf 0)
 |none=>none)=some ((p.2.ren h).inf 0))/\ih) m
def pW(l r:List Nat):Bool:=List.rec (motive:=λ_=>Bool) true (λk _ ih=>match fj k r with
 |true=>ih
 |false=>false) l
def mJ(A:AS)(h fg:Nat ->Nat)(m:List (Nat×SE)):Bool:=List.rec (motive:=λ_=>Bool) true (λp _ ih=>match p.2.fl with
 |some 0=>match Nat.beq 0 (fg (h p.1))with
  |true=>ih
  |false=>false
 |some _=>match Nat.beq (sp' (look A.m (h p.1))) (fg (h p.1))with
  |true=>ih
  |false=>false
 |none=>ih) m
structure uq(A:AS)(h:Nat ->Nat)(aes bs:List AV)(m:List (Nat×SE)):Prop where
 r:oZ A h aes bs
 e:nS (A.upd [] (bJ A (kpv aes bs))) h m
 f:lD m 0=true
 d:pW ((keysOf m).map h) (deepK A (refsA aes))=true
structure yq(A:AS)(h fg:Nat ->Nat)(aes bs:List AV)(m m':List (Nat×SE))(a:AV):Prop extends uq A h aes bs m where
 i:da h (keysOf m++newK m m')=true
 i':da h (keysOf m')=true
 p:jY m m'=true
 l:gV ⟨[],m'⟩ (a.refs++kD m')=true
 g:mJ (A.upd [] (bJ A (kpv aes bs))) h fg m'=true
def sV(q:Option Addr×Nat×Nat):Value:=.slice q.1 q.2.1 q.2.2
theorem ut(os:List (Option Addr×Nat×Nat)):(os.map λq=>[sV q]).flatten=os.map sV:=by
 induction os with
 |nil=>rfl
 |cons u r a=>rw[List.map_cons,List.flatten_cons,a];rfl
theorem DE':∀{css:List (List Value)},(∀us∈css,∃q,us=[sV q]) ->∃os:List (Option Addr×Nat×Nat),css=os.map λq=>[sV q]
 |[],_=>⟨[],rfl⟩
 |c::r,h=>by
  obtain⟨q,rfl⟩:=h c (List.mem_cons_self ..);obtain⟨os,rfl⟩:=DE' λus a=>h us (List.mem_cons_of_mem _ a);exact⟨q::os,rfl⟩
def uu(P:Program)(f:FuncId)(e:Nat):Prop:=dM P f/\∀(w:World) (v:Value) (os:List (Option Addr×Nat×Nat)),os.length<=100000 ->w.ownsRow 0 e 1 v os.length (os.map sV) ->Calls P f #[v] w λex w'=>ex= .returned (.tuple #[])/\Kp (blk v).toList w w'/\w'.ownsRow 0 e 1 v os.length (os.reverse.map sV)
structure gk(P:Program)(n:Nat)(o:Oper)(A:AS)(k:Kk)(pn:List PanicEntry ->List Nat ->Prop)(f:FuncId)(aes:List AV)(q q' qc:Option (List PV)):Prop where
 go:(∃h fg bs m m' a,VG P f bs m (.ok (a,m'))/\yq A h fg aes bs m m' a/\fin n o.dst (a.ren h) λwr=>k wr (jh fg h m m'++bJ A (kpv aes bs)) ((newK m m').map h)) \/
  (∃h bs m ch,VG P f bs m (.error ch)/\uq A h aes bs m/\da h (keysOf m)=true/\pn ch ((keysOf m).map h)) \/
  (∃ps r,VG P f (vals ps) [] (.ok (.c (.p r),[]))/\r.flat=true/\cL A aes=some ps/\fin n o.dst (.c (.p r)) λwr=>k wr [] []) \/
  ∃j e l,uu P f e/\aes=[.c (.row j)]/\look A.m j=some (.rw e 1 l)/\(l.length<=100000/\∀x∈l,∃t,x=[.sl t])/\fin n o.dst (.c (.p (.tup []))) λwr=>k wr [(j,.rw e 1 l.reverse)] []
section
variable{w0:World}{X0:List Nat}{C0:Mem}{P:Program}{τ:Tau}{n:Nat}{o:Oper}{A A':AS}{k:Kk}{s s':St}{w w':World}{C C':Mem}{ρ:Nat ->Value}{h fg:Nat ->Nat}{m m':List (Nat×SE)}
theorem C7{l r:List Nat}(h:pW l r=true):∀k∈l,k∈r:=by
 induction l with
 |nil=>intro k a;cases a
 |cons x l b=>
  have h:(match fj x r with
   |true=>pW l r
   |false=>false)=true:=h
  split at h
  ·rename_i c
   intro k a;rcases List.mem_cons.1 a with rfl|a
   ·exact rF c
   ·exact b h k a
  ·cases h
theorem C8(h1:mJ A h fg m=true):∀p∈m,(p.2.fl=some 0 ->0=fg (h p.1))/\∀g,p.2.fl=some (g+1) ->sp' (look A.m (h p.1))=fg (h p.1):=by
 induction m with
 |nil=>intro p c;cases c
 |cons x r i=>
  have h1:(match x.2.fl with
   |some 0=>match Nat.beq 0 (fg (h x.1))with
    |true=>mJ A h fg r
    |false=>false
   |some _=>match Nat.beq (sp' (look A.m (h x.1))) (fg (h x.1))with
    |true=>mJ A h fg r
    |false=>false
   |none=>mJ A h fg r)=true:=h1
  have d:mJ A h fg r=true/\((x.2.fl=some 0 ->0=fg (h x.1))/\∀g,x.2.fl=some (g+1) ->sp' (look A.m (h x.1))=fg (h x.1)):=by
   split at h1
   ·rename_i b
    split at h1
    ·rename_i f
     exact⟨h1,λ_=>QJ f,λg a=>by rw[b]at a;cases a⟩
    ·cases h1
   ·rename_i g a b
    split at h1
    ·rename_i f
     exact⟨h1,λe=>by rw[b]at e;exact absurd (JB e) a,λg a=>QJ f⟩
    ·cases h1
   ·rename_i b
    exact⟨h1,(λe=>by rw[b]at e;cases e),λg a=>by rw[b]at a;cases a⟩
  intro p c;rcases List.mem_cons.1 c with rfl|c
  ·exact d.2
  ·exact i d.1 p c
theorem C9(h1:nS A h m):Ents A h m:=by
 induction m with
 |nil=>intro p a;cases a
 |cons x r c=>
  obtain⟨b,d⟩:=(show (_/\nS A h r)from h1)
  intro p a;rcases List.mem_cons.1 a with rfl|a
  ·split at b
   ·rename_i y e
    exact⟨y,e,JB b⟩
   ·cases b
  ·exact c d p a
theorem tc':∀{aes bs:List AV},∀k∈kpv aes bs,k∈refsA aes
 |[],_,k,c=>by cases c
 |_::_,[],k,c=>by cases c
 |a::r,b::s,k,c=>by
  simp only[kpv]at c;show k∈a.refs++refsA r;rcases List.mem_append.1 c with c|c
  ·split at c
   ·exact QW _ c
   ·cases c
  ·exact QV _ (tc' k c)
theorem kE(ps:List PV):(vals ps).length=ps.length:=KF _
theorem yr(j:∀b o v,C b o v ->C' b o v):∀{aes bs:List AV} {vs:List Value},oZ A h aes bs ->vs.length=aes.length ->(∀(i:Nat) a v,aes[i]?=some a ->vs[i]?=some v ->RA C ρ a v) ->(∀k∈kpv aes bs,∀l,((∃e sz,look A.m k=some (.rw e sz l)) \/look A.m k=some (.fz l)) ->RV C' (.sl l) (ρ k)) ->vs.length=bs.length/\∀(i:Nat) b v,bs[i]?=some b ->vs[i]?=some v ->RA C' (λk=>ρ (h k)) b v
 |[],[],vs,_,hl,_,_=>⟨hl,λi b v hb=>by simp at hb⟩
 |a::r,b::t,v0::vs,hr,hl,q,g=>by
  obtain⟨h1,h2⟩:=(show C6 A h a b/\oZ A h r t from hr)
  obtain⟨y,z⟩:=yr j (vs:=vs) h2 (by simpa using hl) (λi a v B c=>q (i+1) a v B c) λk f=>g k (by simp only[kpv];exact QV _ f);refine⟨by simp[y],λi d v u c=>?_⟩;cases i with
  |succ i=>exact z i d v u c
  |zero=>
   obtain rfl:=JB u;obtain rfl:=JB c;have p:=q 0 a v0 rfl rfl;rcases h1 with h1|⟨rfl,h1⟩
   rotate_left
   ·exact(p.mono j).eqv λk g=>by rw[h1]at g;cases g
   split at h1
   ·rename_i x
    exact xX h1 (p.mono j) λk f=>g k (by simp only[kpv];exact QW _ f)
   ·subst h1
    exact RA.ren_iff.1 (p.mono j)
 |[],_::_,_,hr,_,_,_=>hr.elim
 |_::_,[],_,hr,_,_,_=>hr.elim
 |_::_,_::_,[],_,hl,_,_=>by simp at hl
theorem I2{l r:List Nat}(h:∀k∈l,k∈r):∀k∈deepK A l,k∈deepK A r:=by
 have b:∀{l r:List Nat},(∀k∈l,k∈r) ->∀k∈seR A l,k∈seR A r:=λ{l r} h=>by
  have d:∀{r:List Nat} {j:Nat},j∈r ->∀k∈(match look A.m j with
    |some x=>x.refs
    |none=>[]),k∈seR A r:=λ{r j} c k a=>by
   induction r with
   |nil=>cases c
   |cons x r e=>
    show k∈(match look A.m x with
     |some x=>x.refs
     |none=>[])++seR A r
    rcases List.mem_cons.1 c with rfl|c
    ·exact QW _ a
    ·exact QV _ (e c)
  induction l with
  |nil=>intro k a;cases a
  |cons x l e=>
   intro k a;have a:k∈(match look A.m x with
    |some x=>x.refs
    |none=>[])++seR A l:=a
   rcases List.mem_append.1 a with a|a
   ·exact d (h x Ud) k a
   ·exact e (λk a=>h k (by simp[a])) k a
 intro k a;unfold deepK at a ⊢;simp only[JW]at a ⊢;rcases a with a|a|a|a
 ·exact .inl (h k a)
 ·exact .inr (.inl (b h k a))
 ·exact .inr (.inr (.inl (b (b h) k a)))
 ·exact .inr (.inr (.inr (b (b (b h)) k a)))
theorem Rp.modR{X:List Nat}{A':AS}(h:Rp w0 X C0 A' s w C ρ){j e sz:Nat}{l l':List (List PV)}(hm:look A'.m j=some (.rw e sz l))(b:Kp (blk (ρ j)).toList w w'){wr:List (Nat×AV)}(F:RE w0.heap.size X (A'.upd wr [(j,.rw e sz l')]) C ρ w' j (.rw e sz l'))
  (H:∀t a,look wr t=some a ->∃v,get s'.e t=some v/\RA C ρ a v) (p:∀t,look wr t=none ->get s'.e t=get s.e t):
  Rp w0 X C0 (A'.upd wr [(j,.rw e sz l')]) s' w' C ρ:=by
 have q:∀(k:Nat) x,look [(j,SE.rw e sz l')] k=some x ->x.alive=true ->k∈([]:List Nat) \/∃y,look A'.m k=some y/\y.alive=true:=λk x c _=>by
  obtain⟨rfl,rfl⟩:=bI c;exact .inr ⟨_,hm,rfl⟩
 refine h.step [] (λ_ _=>rfl) (λk b=>by cases b) (λk b=>by cases b) q b (λz I=>⟨j,_,_,mF _ _ _,hm,rfl,by simpa using I⟩) (λ_ _ _ h=>h) (h.sub.kp b λg o v r f=>h.off j _ g g o v hm rfl (by simpa using f) r rfl) (λ_ _ _ h=>.inl ⟨_,_,h⟩) (λk x c=>?_) (λk x g c K f=>?_) (λt a u _=>H t a u) p
 ·obtain⟨rfl,rfl⟩:=bI c
  exact F
 ·obtain⟨rfl,rfl⟩:=bI c
  refine⟨λi y d L B D=>?_,λM o v r e=>?_⟩
  ·rcases look_app_some L with E|⟨_,E⟩
   ·exact d (bI E).1
   ·exact h.sep i k y _ g d E B hm rfl D f
  ·exact h.off k _ g M o v hm rfl f r e
theorem yt{pn:List PanicEntry ->List Nat ->Prop}{f:FuncId}{aes:List AV}{q q' qc:Option (List PV)}(a':iS' o.op=2)(b0:∀k∈refsA aes,k∈refsOf A (av' o.op))
  (M:∀A' s w C ρ,Agr (iS' o.op) A A' (av' o.op) ->Rp w0 X0 C0 A' s w C ρ ->∃vs:List Value,vs.length=aes.length/\(∀(i:Nat) a v,aes[i]?=some a ->vs[i]?=some v ->RA C ρ a v)/\∀(K:St ->World ->Prop) (kp:List PanicEntry ->St ->World ->Prop),EvCall P f vs.toArray w (λv w'=>put n s o.dst v λs'=>K s' w') (λch w'=>kp ch s w') ->aV P τ n o s w K kp)
  (h:gk P n o A k pn f aes q q' qc):pV w0 X0 C0 P τ n o A k pn:=by
 have Z:∀A',Agr (iS' o.op) A A' (av' o.op) ->∀k∈deepK A (refsA aes),look A'.m k=look A.m k:=λA' N k d=>N.d a' k (I2 b0 k d);have rows:∀{aes Q:List AV} (k:Nat),k∈kpv aes Q ->k∈deepK A (refsA aes):=λk d=>QW _ (tc' k d);have a6:∀{A':AS} {ks:List Nat} {h:Nat ->Nat} {m:List (Nat×SE)},(∀k∈deepK A (refsA aes),look A'.m k=look A.m k) ->pW ((keysOf m).map h) (deepK A (refsA aes))=true ->(∀k∈ks,k∈deepK A (refsA aes)) ->nS (A.upd [] (bJ A ks)) h m ->Ents (A'.upd [] (bJ A ks)) h m:=λW hs c7 hE p R=>by
  obtain⟨x,h1,Y⟩:=C9 hE p R;refine⟨x,?_,Y⟩;have d:=W _ (C7 hs _ (QD (by rw[mH];exact QD (f:=(·.1)) R)));rcases look_app_some h1 with h3|⟨h3,h4⟩
  ·exact Is h3
  ·exact(rx h3).trans (by rw[d];exact h4)
 rcases h.go with ⟨h,fg,Q,m,m',a,⟨T,B⟩,E,d⟩|⟨h,Q,m,ch,⟨T,B⟩,E,hi,d⟩|⟨ps,r,⟨T,B⟩,a4,R,d⟩|⟨j,e,l,hV,rfl,hj,⟨c8,b4⟩,d⟩
 ·obtain⟨wr,d,hw,F⟩:=kA d
  refine .inl ⟨wr,_,_,d,λA' s w K kp N hN D hK=>?_⟩;obtain⟨C,ρ,D⟩:=D;have W:=Z A' N;obtain⟨C1,I,U,H⟩:=D.frz (kpv aes Q) λk d=>W k (rows k d);obtain⟨vs,g1,g2,run⟩:=M A' s w C ρ N D;obtain⟨v1,v2⟩:=yr U E.r g1 g2 H;have hE:=a6 W E.d rows E.e;have a7:da h (keysOf m)=true:=rJ E.i;refine run K kp ?_;unfold EvCall;refine⟨T,(B w _ C1 _ vs v1 (I.into hE a7 E.f v1 v2)).mono λe w' he=>?_⟩;obtain⟨v,C2,b5,rfl,a0⟩:=he;have a4:∀p∈m',p.2.fl≠none ->sp' (look (A'.upd [] (bJ A (kpv aes Q))).m (h p.1))=fg (h p.1):=λp R b6=>by
   obtain⟨h1,Y⟩:=C8 E.g p R;obtain⟨c1,c2⟩:=uo E.p p R;have b7:p.1∈keysOf m':=by rw[mH];exact QD (f:=(·.1)) R
   cases hg:p.2.fl with
   |none=>exact absurd hg b6
   |some g=>
    by_cases hm:p.1∈keysOf m
    ·obtain⟨y,hy⟩:∃y,(p.1,y)∈m:=by
      rw[mH]at hm;obtain⟨q,hq,e⟩:=List.mem_map.1 hm;exact⟨q.2,by rw[<- e];exact hq⟩
     have b8:∃g',g=g'+1:=by
      rcases c1 y (oW a7 hy)with ⟨g2,V,e2,_⟩|V
      ·rw[hg]at V
       obtain rfl:=JB V;obtain⟨q,hq,_⟩:=oX (ρ:=ρ) E.f _ hy g e2;exact⟨q,Uo⟩
      ·rw[(rI hg).2]at V
       cases V
     obtain⟨g',rfl⟩:=b8;rw[<- Y g' hg];have d:=W _ (C7 E.d _ (QD hm));have:look (A'.upd [] (bJ A (kpv aes Q))).m (h p.1)=look (A.upd [] (bJ A (kpv aes Q))).m (h p.1):=by
      show look (_++A'.m) _=look (_++A.m) _;rw[lA,lA,d]
     rw[this]
    ·have b9:look m p.1=none:=by
      cases hq:look m p.1 with
      |none=>rfl
      |some x=>exact absurd (iN (by rw[hq];simp)) hm
     have b':g=0:=by
      rcases c2 b9 with e|e
      ·rw[hg]at e;exact JB e
      ·rw[hg]at e;cases e
     subst b';rw[<- h1 hg];have hn:=((hN (h p.1) (QD (mI.2 ⟨b7,hm⟩))).frz (A:=A) (kpv aes Q)).un;cases hq:look (A'.upd [] (bJ A (kpv aes Q))).m (h p.1)with
     |none=>rfl
     |some x=>
      have:=hn x hq;cases x<;>first|rfl|cases this
  refine F s v _ λs' h1 Y h3=>hK s' w' ?_ h3;have:=I.back (s':=s') (wr:=wr) hE E.i E.i' E.f E.p E.l (λk d=>(hN k d).frz _) a4 a0 (λt b L=>⟨hw t b L,h1 t b L⟩) Y;rw[show A'.upd wr (jh fg h m m'++bJ A (kpv aes Q))=(A'.upd [] (bJ A (kpv aes Q))).upd wr (jh fg h m m') by simp[AS.upd]];exact this
 ·refine .inr ⟨ch,_,d,λA' s w K kp N D hK=>?_⟩
  obtain⟨C,ρ,D⟩:=D;have W:=Z A' N;obtain⟨C1,I,U,H⟩:=D.frz (kpv aes Q) λk d=>W k (rows k d);obtain⟨vs,g1,g2,run⟩:=M A' s w C ρ N D;obtain⟨v1,v2⟩:=yr U E.r g1 g2 H;have hE:=a6 W E.d rows E.e;refine run K kp ?_;unfold EvCall;refine⟨T,(B w _ C1 _ vs v1 (I.into hE hi E.f v1 v2)).mono λe w' he=>?_⟩;obtain⟨rfl,O⟩:=he;exact hK w' (D.kill O λz hz=>by
   obtain⟨p,R,x,h1,Y,h3⟩:=C5 I hE hz;refine⟨_,QD (by rw[mH];exact QD (f:=(·.1)) R),x,?_,Y,h3⟩;rcases look_app_some h1 with h4|⟨_,h4⟩
   ·obtain⟨_,_,_,_,_,rfl⟩:=lB h4
    cases Y
   ·exact h4)
 ·obtain⟨wr,d,hw,F⟩:=kA d
  refine .inl ⟨wr,_,_,d,λA' s w K kp N _ D hK=>?_⟩;obtain⟨C,ρ,D⟩:=D;have W:=Z A' N;obtain⟨C1,I,U,H⟩:=D.frz (refsA aes) λk d=>W k (QW _ d);obtain⟨vs,g1,g2,run⟩:=M A' s w C ρ N D;obtain⟨p1,p2⟩:=oS' R;refine run K kp ?_;unfold EvCall;have a8:vs.length=(vals ps).length:=by rw[kE];omega
  refine⟨T,(B w _ C1 _ vs a8 (I.into (h:=id) (m:=[]) (λp R=>by cases R) rfl rfl a8 λi b v L hv=>?_)).mono λe w' he=>?_⟩
  ·unfold vals at L
   rw[JX]at L;cases S:ps[i]? with
   |none=>rw[S]at L;cases L
   |some x=>
    rw[S]at L;obtain rfl:=JB L;have hi:=aM S;have ha:aes[i]?=some aes[i]:=gE;obtain⟨x',q1,q2⟩:=p2 i _ ha;rw[S]at q1;obtain rfl:=JB q1;exact xX q2 ((g2 i _ v ha hv).mono U) λk d=>H k (CI (JQ ha) d)
  ·obtain⟨v,C2,b5,rfl,a0⟩:=he
   refine F s v _ λs' h1 Y h3=>hK s' w' ⟨C,ρ,?_⟩ h3;have O:Kp [] w w':=a0.kp;have c0:=D.grow O (D.sub.tr O) (λ_ _ _ h=>h) λb o v h=>.inl ⟨_,_,h⟩;obtain⟨v',V,e2⟩:=a0.slot 0 _ rfl λk d=>by cases d
   obtain rfl:v'=v:=by
    have V:some v=some v':=V;exact(JB V).symm
   have e2:RV C2 r v':=e2;refine c0.slots (wr:=wr) (s':=s') (λt b L _=>⟨v',h1 t b L,?_⟩) Y;have:=hw t b L;subst this;exact e2.flat a4
 ·obtain⟨wr,d,hw,F⟩:=kA d
  refine .inl ⟨wr,_,_,d,λA' s w K kp N _ D hK=>?_⟩;obtain⟨C,ρ,D⟩:=D;have a9:look A'.m j=some (.rw e 1 l):=(Z A' N j (QW _ (List.mem_singleton_self j))).trans hj;obtain⟨vs,g1,g2,run⟩:=M A' s w C ρ N D;obtain⟨v,rfl⟩:∃v,vs=[v]:=by
   match vs,g1 with
   |[v],_=>exact⟨v,rfl⟩
  obtain rfl:v=ρ j:=g2 0 _ v rfl rfl;obtain⟨c3,⟨ho,c4⟩,a1,a2,a3⟩:=D.ent j _ a9;obtain⟨os,rfl⟩:∃os:List (Option Addr×Nat×Nat),c3=os.map λq=>[sV q]:=DE' λus c5=>by
   obtain⟨i,hi⟩:=JH c5;have a5:=aM hi;have S:=List.getElem?_eq_getElem (l:=l) (i:=i) Uo;obtain⟨q1,q2⟩:=a3 i us _ hi S;obtain⟨t,ht⟩:=b4 _ (JQ S)
   match us,q1 with
   |[u],_=>
    obtain⟨a,n,c,hu⟩:∃a n c,u= .slice a n c:=by
     obtain⟨a,c,e⟩:=RV.slv (q2 0 _ u (by rw[ht];rfl) rfl).2;exact⟨a,_,c,e⟩
    exact⟨(a,n,c),by rw[hu];rfl⟩
  rw[KF]at a2;rw[ut,<- a2]at ho;refine run K kp ?_;unfold EvCall;refine⟨hV.1,(hV.2 w (ρ j) os Uo ho).mono λex w' ⟨V,O,c6⟩=>?_⟩;subst V;refine F s (.tuple #[]) _ λs' b1 b2 b3=>hK s' w' ⟨C,ρ,D.modR a9 O ⟨(os.map λq=>[sV q]).reverse,⟨by rw[List.length_reverse,<- List.map_reverse,ut,<- a2];exact c6,c4⟩,λx S=>a1 x (List.mem_reverse.1 S),by simp[a2],λi us x hi S=>?_⟩ (λt b L=>⟨_,b1 t b L,by rw[hw t b L];exact RV.tup [] [] rfl λi y u hy=>by simp at hy⟩) b2⟩ b3;have a5:=aM hi;rw[List.length_reverse,KF]at a5;rw[List.getElem?_reverse (by rw[KF];exact a5),KF]at hi;rw[List.getElem?_reverse Uo,<- a2]at S;exact a3 _ us x hi S
end
end Go.Wx
