import Derived.WalkKit
import Derived.OrdersHeld
import Derived.RowKit
import Derived.Below
import Derived.Deep.Quiet
import Derived.StillTail
import Derived.Maps.AppendAt
import Derived.Laws.CopyRow
import Derived.Lib.SliceRun
set_option linter.all false
set_option maxHeartbeats 4000000
noncomputable section
open Go
theorem Uo{p:Prop}(h:p:=by omega):p:=h
theorem UO{p:Prop}(h:p:=by decide):p:=h
theorem Ud{p:Prop}(h:p:=by simp):p:=h
theorem UD{p:Prop}(h:p:=by kernel_rfl):p:=h
theorem Us{p:Prop}(h:p:=by (simp only;omega)):p:=h
theorem Uk{p:Prop}(h:p:=by (simp;omega)):p:=h
namespace Go.Wx
def BZ(l:List Nat):Nat ->Nat ->List Bool
 |0,_=>[]
 |n+1,i=>(!l.elem i)::BZ l n (i+1)
def mB(n:Nat)(l:List Nat):Array Bool:=(BZ l n 0).toArray
def mR(n a:Nat):Array Bool:=mB n (List.range' a (n-a))
abbrev rg(a n:Nat):List Nat:=List.range' a n
structure St where
 e:List (Nat×Value)
 d:List Deferred
def get(l:List (Nat×Value)):Nat ->Option Value:=
 List.rec (motive:=λ_=>Nat ->Option Value) (λ_=>none) (λp _ ih t=>Bool.rec (motive:=λ_=>Option Value) (ih t) (some p.2) (Nat.beq p.1 t)) l
theorem B1(t:Nat):get [] t=none:=rfl
theorem eQ(k:Nat)(v:Value)(r:List (Nat×Value))(t:Nat):get ((k,v)::r) t=(match Nat.beq k t with
  |true=>some v
  |false=>get r t):=by
 show Bool.rec (motive:=λ_=>Option Value) (get r t) (some v) (Nat.beq k t)=_;cases Nat.beq k t<;>rfl
structure Fr(n:Nat)(a:Act)(s:St):Prop where
 size:a.tmps.size=n
 defers:a.defers=s.d
 has:∀t v,get s.e t=some v ->a.tmps[t]?=some v
def ev(e:List (Nat×Value)):Operand ->Option Value
 | .tmp t=>get e t
 | .const v=>some v
 | .global g=>some (.pointer (some ⟨g,0,none⟩))
 | .func f=>some (.func (.func f) #[] #[])
def wv(e:List (Nat×Value))(x:Operand)(k:Value ->Prop):Prop:=
 match ev e x with
 |some v=>k v
 |none=>False
def wvs(e:List (Nat×Value))(l:List Operand):(List Value ->Prop) ->Prop:=
 List.rec (motive:=λ_=>(List Value ->Prop) ->Prop) (λk=>k []) (λx _ ih k=>wv e x λv=>ih λvs=>k (v::vs)) l
def wvo(e:List (Nat×Value)):Option Operand ->(Option Value ->Prop) ->Prop
 |none,k=>k none
 |some x,k=>wv e x λv=>k (some v)
def wvp(e:List (Nat×Value))(l:List (Nat×Operand)):(List (Nat×Value) ->Prop) ->Prop:=
 List.rec (motive:=λ_=>(List (Nat×Value) ->Prop) ->Prop) (λk=>k []) (λp _ ih k=>wv e p.2 λv=>ih λvs=>k ((p.1,v)::vs)) l
def put(n:Nat)(s:St)(dst:Option Nat)(v:Value)(k:St ->Prop):Prop:=
 match dst with
 |none=>k s
 |some t=>match Nat.ble (t+1) n with
  |true=>match s with
   |⟨e,d⟩=>k ⟨(t,v)::e,d⟩
  |false=>False
def Ib(A B:Prop)(c:Bool):Prop:=Bool.rec (motive:=λ_=>Prop) B A c
abbrev Br(c:Bool)(A B:Prop):Prop:=Ib A B c
@[irreducible] def EvRun (P:Program) (m:Sem Value) (w:World) (k:Value ->World ->Prop):Prop:=∃v w',m.run P w= .ok v w'/\k v w'
@[irreducible] def EvRunU (P:Program) (m:Sem Unit) (w:World) (k:World ->Prop):Prop:=∃w',m.run P w= .ok () w'/\k w'
@[irreducible] def EvInt (j:IntKind) (r:Int) (k:Value ->Prop):Prop:=∃v,v=Value.int j (j.wrap r)/\k v
theorem EvInt.elim{j:IntKind}{r:Int}{k:Value ->Prop}(h:EvInt j r k):k (.int j (j.wrap r)):=by
 unfold EvInt at h;obtain⟨v,rfl,h⟩:=h;exact h
def dO (P : Program) (f : FuncId) : Prop := ∃ fn, P.funcs[f]? = some fn /\ fn.body.isNone = false /\ (fn.name == "runtime.NumGoroutine") = false
def B2(k:Value ->World ->Prop)(kp:List PanicEntry ->World ->Prop):Ending ->World ->Prop
 | .returned v,w=>k v w
 | .panicked ch,w=>kp ch w
 | .outgrown,_=>False
@[irreducible] def EvCall (P:Program) (f:FuncId) (args:Array Value) (w:World) (k:Value ->World ->Prop) (kp:List PanicEntry ->World ->Prop):Prop:=
 dO P f/\Calls P f args w (B2 k kp)
@[irreducible] def EvLd (w:World) (a:Addr) (k:Value ->Prop):Prop:=∃v,w.cell? a=some v/\k v
@[irreducible] def EvLdN (w:World) (a:Addr) (n:Nat) (k:Value ->Prop):Prop:=∃cs:List Value,cs.length=n/\(∀j v,cs[j]?=some v ->w.cell? (a.add j)=some v)/\k (.agg cs.toArray)
@[irreducible] def EvFill (o:Option (List Value)) (k:List Value ->Prop):Prop:=∃cs,o=some cs/\k cs
@[irreducible] def EvNew (w:World) (T:TypeId) (cs:List Value) (k:Nat ->World ->Prop):Prop:=∃b w',(b=w.heap.size/\w'=w.alloc (.cells cs.toArray T))/\k b w'
theorem EvNew.elim{w:World}{T:TypeId}{cs:List Value}{k:Nat ->World ->Prop}(h:EvNew w T cs k):k w.heap.size (w.alloc (.cells cs.toArray T)):=by
 unfold EvNew at h;obtain⟨b,w',⟨rfl,rfl⟩,h⟩:=h;exact h
@[irreducible] def EvSt (w:World) (a:Addr) (v:Value) (k:World ->Prop):Prop:=(∃u,w.cell? a=some u)/\w.frozen? a=false/\v.oneCell'=true/\k (w.setCell a v)
@[irreducible] def EvIx (a:Option Addr) (len sz:Nat) (i:Int) (k:Addr ->Prop):Prop:=∃ad,a=some ad/\0<=i/\i<len/\k (ad.add (i.toNat*sz))
structure Tau where
 tab:List (Nat×List (Nat×Nat×Bool)×List Nat)
 ones:List (Nat×Nat)
 slcs:List (Nat×Nat×Nat×Nat)
def zc:Nat ->Value
 |0=>.int .i64 0
 |1=>.bool false
 |2=>.slice none 0 0
 |3=>.pointer none
 |4=>.map none
 |5=>.nilFunc
 |6=>.int .u32 0
 |7=>.int .u8 0
 |8=>.nilIface
 |9=>.string .empty
 |10=>.int .u16 0
 |11=>.int .u64 0
 |_=>.int .i32 0
def zeq:Nat ->Value ->Bool
 |0,.int .i64 n=>n==0
 |1,.bool b=>!b
 |2,.slice none 0 0=>true
 |3,.pointer none=>true
 |4,.map none=>true
 |5,.nilFunc=>true
 |6,.int .u32 n=>n==0
 |7,.int .u8 n=>n==0
 |8,.nilIface=>true
 |9,.string s=>s.data.toList.isEmpty
 |10,.int .u16 n=>n==0
 |11,.int .u64 n=>n==0
 |12,.int .i32 n=>n==0
 |_,_=>false
def kJ':Nat ->Option IntKind
 |0=>some .i64
 |6=>some .u32
 |7=>some .u8
 |10=>some .u16
 |11=>some .u64
 |12=>some .i32
 |_=>none
def look{α:Type}(l:List (Nat×α)):Nat ->Option α:=
 List.rec (motive:=λ_=>Nat ->Option α) (λ_=>none) (λp _ ih t=>Bool.rec (motive:=λ_=>Option α) (ih t) (some p.2) (Nat.beq p.1 t)) l
theorem look_nil{α:Type}(t:Nat):look (α:=α) [] t=none:=rfl
theorem cG{α:Type}(k:Nat)(v:α)(r:List (Nat×α))(t:Nat):look ((k,v)::r) t=(match Nat.beq k t with
  |true=>some v
  |false=>look r t):=by
 show Bool.rec (motive:=λ_=>Option α) (look r t) (some v) (Nat.beq k t)=_;cases Nat.beq k t<;>rfl
def eZ{α:Type}(l:List α):Nat ->Option α:=
 List.rec (motive:=λ_=>Nat ->Option α) (λ_=>none) (λx _ ih i=>Bool.rec (motive:=λ_=>Option α) (ih (Nat.pred i)) (some x) (Nat.beq i 0)) l
def Tau.zero(τ:Tau)(T:Nat):Option (List Value):=
 match look τ.tab T with
 |some (_,z)=>some (z.map zc)
 |none=>match look τ.ones T with
  |some c=>some [zc c]
  |none=>none
def lay:List Value ->Nat ->List Value ->List Value
 |cs,_,[]=>cs
 |cs,o,v::r=>lay (cs.set o v) (o+1) r
def mn(place:Nat ->Option (Nat×Nat)):List Value ->List (Nat×Value) ->Option (List Value)
 |cs,[]=>some cs
 |cs,(i,v)::r=>match place i with
  |none=>none
  |some (o,sz)=>match Nat.beq v.cells.toList.length sz,Nat.ble (o+sz) cs.length with
   |true,true=>mn place (lay cs o v.cells.toList) r
   |_,_=>none
def qY(fs:List (Nat×Nat×Bool))(i:Nat):Option (Nat×Nat):=
 match eZ fs i with
 |some (o,sz,_)=>some (o,sz)
 |none=>none
def gI(z:List Value):Nat ->List Value
 |0=>[]
 |n+1=>z++gI z n
def mC':IntKind ->IntKind ->Bool
 | .i64,.i64=>true
 | .u8,.u8=>true
 | .u16,.u16=>true
 | .u32,.u32=>true
 | .u64,.u64=>true
 | .i32,.i32=>true
 | .i16,.i16=>true
 | .i8,.i8=>true
 |_,_=>false
def fX(P:Program)(τ:Tau)(op:BinOp)(T:TypeId)(x y:Operand)(a b:Value)(w:World)(k:Value ->World ->Prop):Prop:=
 match a,b with
 | .int j m,.int j' n=>match mC' j j' with
  |false=>EvRun P (binOp op T (.int j m) (.int j' n)) w k
  |true=>match op with
   | .add=>EvInt j (m+n) λv=>k v w
   | .sub=>EvInt j (m-n) λv=>k v w
   | .mul=>EvInt j (m*n) λv=>k v w
   | .eql=>k (.bool (decide (m=n))) w
   | .neq=>k (.bool (decide (m≠n))) w
   | .lss=>k (.bool (decide (m<n))) w
   | .leq=>k (.bool (decide (m<=n))) w
   | .gtr=>k (.bool (decide (n<m))) w
   | .geq=>k (.bool (decide (n<=m))) w
   |op=>EvRun P (binOp op T (.int j m) (.int j' n)) w k
 | .bool m,.bool n=>match look τ.ones T with
  |some 1=>match op with
   | .eql=>k (.bool (m==n)) w
   | .neq=>k (.bool (m !=n)) w
   |_=>False
  |_=>False
 |a,b=>EvRun P (do eqGuard op T x y a b;binOp op T a b) w k
def tR(P:Program)(op:UnOp)(a:Value)(w:World)(k:Value ->World ->Prop):Prop:=
 match op,a with
 | .not,.bool b=>k (.bool (!b)) w
 | .neg,.int j m=>EvInt j (0-m) λv=>k v w
 |op,a=>EvRun P (Op.unary op a) w k
def tS(P:Program)(f:Value)(args:List Value)(w:World)(k:Value ->World ->Prop)(kp:List PanicEntry ->World ->Prop):Prop:=
 match f with
 | .func (.func g) first captured=>EvCall P g (first++args.toArray++captured) w k kp
 |_=>False
def aW(P:Program)(τ:Tau)(n:Nat)(o:Oper)(s:St)(w:World)(k:St ->World ->Prop)(kp:List PanicEntry ->St ->World ->Prop):Prop:=
 let fin:Value ->World ->Prop:=λv w'=>put n s o.dst v λs'=>k s' w'
 match o.op with
 | .move x=>wv s.e x λv=>fin v w
 | .assign x=>wv s.e x λv=>fin v w
 | .pick c a b=>wv s.e c λvc=>match vc with
  | .bool t=>Br t (wv s.e a λv=>fin v w) (wv s.e b λv=>fin v w)
  |_=>False
 | .alloc T=>match τ.zero T with
  |some z=>EvNew w T z λb w'=>fin (.pointer (some ⟨b,0,none⟩)) w'
  |none=>EvRun P (Instr.alloc T true (.tuple #[])) w fin
 | .box T x=>wv s.e x λv=>EvNew w T v.cells.toList λb w'=>fin (.pointer (some ⟨b,0,none⟩)) w'
 | .build T ps=>wvp s.e ps.toList λvs=>match look τ.tab T with
  |some (fs,z)=>match mn (qY fs) (z.map zc) vs with
   |some cs=>fin (.agg cs.toArray) w
   |none=>False
  |none=>EvRun P (Instr.build T vs.toArray) w fin
 | .buildSlice T len ps=>wvp s.e ps.toList λvs=>match look τ.slcs T with
  |some (e,sz,_)=>match τ.zero e with
   |some z=>match Nat.ble 1 sz,Nat.ble (len*sz) 16777216 with
    |true,true=>EvFill (mn (λi=>some (i*sz,sz)) (gI z len) vs) λcs=>EvNew w e cs λb w'=>fin (.slice (some ⟨b,0,none⟩) len len) w'
    |_,_=>False
   |none=>EvRun P (Instr.buildSlice T len vs.toArray) w fin
  |none=>EvRun P (Instr.buildSlice T len vs.toArray) w fin
 | .load T x=>wv s.e x λv=>match v with
  | .pointer (some a)=>match look τ.tab T with
   |some (_,z)=>EvLdN w a z.length λu=>fin u w
   |none=>match look τ.ones T with
    |some _=>EvLd w a λu=>fin u w
    |none=>EvRun P (Instr.loadAt T v) w fin
  |_=>False
 | .store T x y=>wv s.e x λu=>wv s.e y λv=>match u with
  | .pointer (some a)=>match look τ.ones T with
   |some _=>EvSt w a v λw'=>fin undef w'
   |none=>match look τ.tab T,v with
    |some (_,z),.agg cs=>match Nat.beq cs.toList.length z.length with
     |true=>EvRunU P (storeCells a cs.toList) w λw'=>fin undef w'
     |false=>False
    |_,_=>EvRunU P (Instr.storeAt T u v) w λw'=>fin undef w'
  |_=>False
 | .binOp op T x y _=>wv s.e x λa=>wv s.e y λb=>fX P τ op T x y a b w fin
 | .unOp op _ x=>wv s.e x λa=>tR P op a w fin
 | .convert src dst x=>wv s.e x λv=>match v,look τ.ones src,look τ.ones dst with
  | .int _ m,some _,some c=>match kJ' c with
   |some j=>EvInt j m λu=>fin u w
   |none=>EvRun P (convert src dst v) w fin
  |_,_,_=>EvRun P (convert src dst v) w fin
 | .makeInterface T x=>wv s.e x λv=>EvRun P (Instr.makeInterface T v) w fin
 | .makeFunc fn first captured=>wvs s.e first.toList λus=>wvs s.e captured.toList λvs=>fin (.func fn us.toArray vs.toArray) w
 | .makeMap T none=>EvRun P (Instr.makeMap T none) w fin
 | .makeMap T (some r)=>wv s.e r λv=>EvRun P (Instr.makeMap T (some v)) w fin
 | .makeSlice T l c=>wv s.e l λu=>wv s.e c λv=>EvRun P (Instr.makeSlice T u v) w fin
 | .slice T x lo hi mx=>wv s.e x λv=>wvo s.e lo λl=>wvo s.e hi λh=>wvo s.e mx λm=>EvRun P (Instr.sliceAt T v l h m) w fin
 | .fieldAddr T x f=>wv s.e x λv=>match v,look τ.tab T with
  | .pointer (some a),some (fs,_)=>match eZ fs f with
   |some (o,_,_)=>fin (.pointer (some (a.add o))) w
   |none=>False
  |_,_=>False
 | .field T x f=>wv s.e x λv=>match v,look τ.tab T with
  | .agg cs,some (fs,_)=>match eZ fs f with
   |some (o,sz,true)=>fin (.agg ((cs.toList.drop o).take sz).toArray) w
   |some (o,_,false)=>match eZ cs.toList o with
    |some u=>fin u w
    |none=>False
   |none=>False
  |_,_=>False
 | .indexAddr T x i=>wv s.e x λv=>wv s.e i λj=>match v,j,look τ.slcs T with
  | .slice a len _,.int _ m,some (_,sz,_)=>EvIx a len sz m λad=>fin (.pointer (some ad)) w
  |_,_,_=>EvRun P (Instr.indexAt T v j) w fin
 | .index T x i=>wv s.e x λv=>wv s.e i λj=>EvRun P (Instr.index T v j) w fin
 | .lookup T x i ok=>wv s.e x λv=>wv s.e i λj=>EvRun P (Instr.lookup T v j ok) w fin
 | .mapUpdate T m i x=>wv s.e m λu=>wv s.e i λj=>wv s.e x λv=>EvRunU P (Instr.mapUpdate T u j v) w λw'=>fin undef w'
 | .insert T m i x=>wv s.e m λu=>wv s.e i λj=>wv s.e x λv=>EvRunU P (Instr.mapUpdate T u j v) w λw'=>fin undef w'
 | .range T x=>wv s.e x λv=>EvRun P (Instr.range T v) w fin
 | .next x b=>wv s.e x λv=>EvRun P (Instr.next v b o.type) w fin
 | .entry x=>wv s.e x λv=>EvRun P (Instr.entry v) w fin
 | .typeAssert x T U ok=>wv s.e x λv=>EvRun P (Instr.typeAssert v T U ok) w fin
 | .extract x i=>wv s.e x λv=>match v with
  | .tuple vs=>match eZ vs.toList i with
   |some u=>fin u w
   |none=>False
  |_=>False
 | .call c=>match c.callee with
  | .value f=>wv s.e f λg=>wvs s.e c.args.toList λvs=>tS P g vs w fin λch w'=>kp ch s w'
  | .builtin b=>wvs s.e c.args.toList λvs=>match b with
   | .len=>match vs,c.argTypes.toList with
    |[.slice _ m _],[T]=>match look τ.slcs T with
     |some _=>fin (.int .i64 m) w
     |none=>EvRun P (Builtin.len_ c.argTypes o.type vs.toArray) w fin
    |_,_=>EvRun P (Builtin.len_ c.argTypes o.type vs.toArray) w fin
   | .append=>EvRun P (Builtin.append_ c.argTypes o.type vs.toArray) w fin
   | .cap=>EvRun P (Builtin.cap_ c.argTypes o.type vs.toArray) w fin
   | .copy=>EvRun P (Builtin.copy_ c.argTypes o.type vs.toArray) w fin
   | .min=>EvRun P (Builtin.min_ c.argTypes o.type vs.toArray) w fin
   | .max=>EvRun P (Builtin.max_ c.argTypes o.type vs.toArray) w fin
   | .clear=>EvRun P (Builtin.clear_ c.argTypes o.type vs.toArray) w fin
   | .delete=>EvRun P (Builtin.delete_ c.argTypes o.type vs.toArray) w fin
   |_=>False
  |_=>False
 | .defer c=>match c.callee with
  | .value f=>wv s.e f λg=>wvs s.e c.args.toList λvs=>match g with
   | .func fn first captured=>match s with
    |⟨e,d⟩=>put n ⟨e,{target:=.fn fn captured,args:=first++vs.toArray}::d⟩ o.dst undef λs'=>k s' w
   |_=>False
  |_=>False
 | .nilCheck x=>wv s.e x λv=>match v with
  | .pointer (some a)=>fin (.pointer (some a)) w
  | .func (.func f) us vs=>fin (.func (.func f) us vs) w
  | .iface t u=>fin (.iface t u) w
  |_=>False
 | .panic x=>wv s.e x λv=>match v with
  | .iface t u=>kp [{v:=.iface t u,recovered:=false}] s w
  |_=>False
 |_=>False
def lj(all:List Oper)(j:Nat):Option Nat:=
 match eZ all j with
 |some o=>o.dst
 |none=>none
def fY(P:Program)(τ:Tau)(n:Nat)(all:List Oper)(k:St ->World ->Prop)(kp:List PanicEntry ->St ->World ->Prop)(l:List Oper):St ->World ->Prop:=
 List.rec (motive:=λ_=>St ->World ->Prop) (λs w=>k s w) (λo _ ih s w=>match o.guard with
  |none=>aW P τ n o s w ih kp
  |some (j,want)=>match lj all j with
   |none=>False
   |some d=>match get s.e d with
    |some (.bool c)=>match s with
     |⟨e,ds⟩=>match want with
      |true=>Br c (aW P τ n o ⟨(d,.bool true)::e,ds⟩ w ih kp) (put n ⟨(d,.bool false)::e,ds⟩ o.dst undef λs'=>ih s' w)
      |false=>Br c (put n ⟨(d,.bool true)::e,ds⟩ o.dst undef λs'=>ih s' w) (aW P τ n o ⟨(d,.bool false)::e,ds⟩ w ih kp)
    |some (.tuple _)=>put n s o.dst undef λs'=>ih s' w
    |_=>False) l
theorem mp(P:Program)(τ:Tau)(n:Nat)(all:List Oper)(k:St ->World ->Prop)(kp:List PanicEntry ->St ->World ->Prop)(o:Oper)(f:List Oper)(s:St)(w:World):
  fY P τ n all k kp (o::f) s w=(match o.guard with
  |none=>aW P τ n o s w (fY P τ n all k kp f) kp
  |some (j,g)=>match lj all j with
   |none=>False
   |some d=>match get s.e d with
    |some (.bool c)=>match s with
     |⟨e,ds⟩=>match g with
      |true=>Br c (aW P τ n o ⟨(d,.bool true)::e,ds⟩ w (fY P τ n all k kp f) kp) (put n ⟨(d,.bool false)::e,ds⟩ o.dst undef λs'=>fY P τ n all k kp f s' w)
      |false=>Br c (put n ⟨(d,.bool true)::e,ds⟩ o.dst undef λs'=>fY P τ n all k kp f s' w) (aW P τ n o ⟨(d,.bool false)::e,ds⟩ w (fY P τ n all k kp f) kp)
    |some (.tuple _)=>put n s o.dst undef λs'=>fY P τ n all k kp f s' w
    |_=>False):=rfl
def lift(n:Nat)(K:Exit ->St ->World ->Prop):Exit ->Act ->World ->Prop:=λe a w=>∃s,Fr n a s/\K e s w
@[irreducible] def EvCode (P:Program) (n:Nat) (c:Code) (s:St) (w:World) (K:Exit ->St ->World ->Prop):Prop:=
 ∀a,Fr n a s ->c.wp P (lift n K) a w
def tT(k:St ->World ->Prop)(K:Exit ->St ->World ->Prop):Exit ->St ->World ->Prop
 | .normal,s,w=>k s w
 |e,s,w=>K e s w
def B3(id:Nat)(K:Exit ->St ->World ->Prop):Exit ->St ->World ->Prop
 | .exit j,s,w=>match Nat.beq j id with
  |true=>K .normal s w
  |false=>K (.exit j) s w
 |e,s,w=>K e s w
def jK(P:Program)(τ:Tau)(n:Nat)(c:Code):St ->World ->(Exit ->St ->World ->Prop) ->Prop:=
 Code.rec (motive:=λ_=>St ->World ->(Exit ->St ->World ->Prop) ->Prop)
  (λs w K=>K .normal s w)
  (λid ops draw s w K=>Bool.rec (motive:=λ_=>Prop) (fY P τ n ops.toList (K .normal) (λch=>K (.panic ch)) ops.toList s w) (EvCode P n (.region id ops true) s w K) draw)
  (λ_ _ iha ihb s w K=>iha s w (tT (λs' w'=>ihb s' w' K) K))
  (λc _ _ iha ihb s w K=>wv s.e c λv=>match v with
   | .bool t=>Br t (iha s w K) (ihb s w K)
   |_=>False)
  (λid _ ih s w K=>ih s w (B3 id K))
  (λc _ s w K=>EvCode P n (.loop c) s w K)
  (λf ps x y _ _ s w K=>EvCode P n (.rangeFunc f ps x y) s w K)
  (λid s w K=>K (.exit id) s w)
  (λx _ s w K=>EvCode P n (.scope x) s w K)
  (λ_ s w K=>K .normal s w)
  (λl s w K=>EvCode P n (.goto l) s w K)
  (λs w K=>K .ret s w)
  (λm s w K=>EvCode P n (.refuse m) s w K) c
theorem Fr.eval{n:Nat}{a:Act}{s:St}(h:Fr n a s){x:Operand}{v:Value}(d:ev s.e x=some v):a.eval x=v:=by
 cases x with
 |tmp t=>
  have:=h.has t v d;simp[Act.eval,this]
 |const u=>simpa[ev,Act.eval]using d
 |global g=>simpa[ev,Act.eval]using d
 |func f=>simpa[ev,Act.eval]using d
theorem Fr.wv{n:Nat}{a:Act}{s:St}(h:Fr n a s){x:Operand}{k:Value ->Prop}(d:wv s.e x k):k (a.eval x):=by
 unfold Wx.wv at d;split at d
 ·rename_i v f;rw[h.eval f];exact d
 ·exact d.elim
theorem Fr.wvs{n:Nat}{a:Act}{s:St}(h:Fr n a s):∀(xs:List Operand) (k:List Value ->Prop),wvs s.e xs k ->k (xs.map a.eval)
 |[],k,d=>d
 |x::r,k,d=>by
  have h1:=h.wv d;exact Fr.wvs h r (λf=>k (a.eval x::f)) h1
theorem Fr.wvp{n:Nat}{a:Act}{s:St}(h:Fr n a s):∀(xs:List (Nat×Operand)) (k:List (Nat×Value) ->Prop),wvp s.e xs k ->k (xs.map λp=>(p.1,a.eval p.2))
 |[],k,d=>d
 |(i,x)::r,k,d=>by
  have h1:=h.wv d;exact Fr.wvp h r (λf=>k ((i,a.eval x)::f)) h1
theorem Fr.wvo{n:Nat}{a:Act}{s:St}(h:Fr n a s){x:Option Operand}{k:Option Value ->Prop}(d:wvo s.e x k):k (x.map a.eval):=by
 cases x with
 |none=>exact d
 |some y=>exact h.wv d
theorem Fr.cons{n:Nat}{a:Act}{s:St}(h:Fr n a s){d:Nat}{v:Value}(m:d<n):Fr n (a.put (some d) v) ⟨(d,v)::s.e,s.d⟩:=by
 refine⟨by simp[Act.put,h.size],by simp[Act.put,h.defers],λt u f=>?_⟩;simp only[eQ]at f;have i:=h.size;cases g:Nat.beq d t with
 |true=>
  rw[g]at f;have e:=Nat.eq_of_beq_eq_true g;subst e;have:v=u:=by simpa using f
  subst this;simp[Act.put,i,m]
 |false=>
  rw[g]at f;have j:d≠t:=λe=>by subst e;simp at g
  have:=h.has t u f;simp[Act.put,Array.getElem?_setIfInBounds_ne j,this]
theorem Fr.put{n:Nat}{a:Act}{s:St}(h:Fr n a s){dst:Option Nat}{v:Value}{k:St ->Prop}(f:put n s dst v k):∃s',Fr n (a.put dst v) s'/\k s':=by
 unfold Wx.put at f;cases dst with
 |none=>exact⟨s,h,f⟩
 |some d=>
  simp only at f;split at f
  ·rename_i g
   exact⟨_,h.cons (Nat.le_of_ble_eq_true g),f⟩
  ·exact f.elim
theorem Fr.again{n:Nat}{a:Act}{s:St}(h:Fr n a s){d:Nat}{v:Value}(i:get s.e d=some v):Fr n a ⟨(d,v)::s.e,s.d⟩:=by
 refine⟨h.size,h.defers,λt u f=>?_⟩;simp only[eQ]at f;cases g:Nat.beq d t with
 |true=>
  rw[g]at f;have e:=Nat.eq_of_beq_eq_true g;subst e;have:v=u:=by simpa using f
  subst this;exact h.has _ _ i
 |false=>rw[g]at f;exact h.has t u f
theorem gq{α:Type}:∀(l:List α) (i:Nat),eZ l i=l[i]?
 |[],i=>by simp[eZ]
 |x::r,0=>rfl
 |x::r,j+1=>by
  have:eZ (x::r) (j+1)=eZ r j:=rfl;rw[this,gq r j];simp
theorem B4{j k:IntKind}(h:mC' j k=true):j=k:=by cases j<;>cases k<;>first|rfl|(simp[mC']at h)
def jz':TypeDesc ->Bool
 | .struct _=>false
 | .array _ _=>false
 |_=>true
def tU(P:Program)(T:TypeId):Bool:=match P.underlying T with
 |some d=>!jz' d
 |none=>false
structure aU(P:Program)(τ:Tau):Prop where
 tab:∀T fs z,look τ.tab T=some (fs,z) ->∃gs:Array Field,P.underlying T=some (.struct gs)/\gs.toList.map (λf=>(f.offset,P.cellsOf f.type,tU P f.type))=fs/\(∀f∈gs.toList,(∃d,P.underlying f.type=some d)/\∃i,P.info? f.type=some i/\i.size≠0)/\
  ∃i,P.info? T=some i/\i.size=z.length/\i.zero=some (.agg (z.map zc).toArray)
 ones:∀T c,look τ.ones T=some c ->∃d i,P.underlying T=some d/\jz' d=true/\P.info? T=some i/\i.size=1/\i.zero=some (zc c)/\(zc c).oneCell'=true/\(c=1 ->d= .bool)/\∀j,kJ' c=some j ->d= .int j
 slcs:∀T e sz bs,look τ.slcs T=some (e,sz,bs) ->P.underlying T=some (.slice e)/\∃i,P.info? e=some i/\i.size=sz/\i.bytes=bs
 mixed:P.follows .mixedOrders=true
theorem dm{α:Type}:∀{l:List (Nat×α)} {t:Nat} {v:α},look l t=some v ->(t,v)∈l
 |[],t,v,h=>by simp[look_nil]at h
 |(k,u)::r,t,v,h=>by
  simp only[cG]at h;cases hb:Nat.beq k t with
  |true=>
   rw[hb]at h;have e:=Nat.eq_of_beq_eq_true hb;subst e;have:u=v:=by simpa using h
   subst this;simp
  |false=>rw[hb]at h;exact List.mem_cons_of_mem _ (dm h)
theorem B5{c:Nat}{v:Value}(h:zeq c v=true):v=zc c:=by
 unfold zeq at h;split at h
 all_goals first
  |rfl
  |(simp at h;subst h;rfl)
  |skip
 ·rename_i s
  have:s=ByteArray.empty:=by
   have f:s.data.toList=[]:=by simpa using h
   have d:s.data= #[]:=Array.ext' (by simpa using f);cases s;simp only at d;subst d
   rfl
  subst this
  rfl
 ·cases h
def Dc':List Nat ->List Value ->Bool
 |[],[]=>true
 |c::r,v::t=>zeq c v && Dc' r t
 |_,_=>false
theorem sF':∀{z:List Nat} {vs:List Value},Dc' z vs=true ->vs=z.map zc
 |[],[],_=>rfl
 |c::r,v::t,h=>by
  simp only[Dc',Bool.and_eq_true]at h;simp[B5 h.1,sF' h.2]
 |[],_::_,h=>by simp[Dc']at h
 |_::_,[],h=>by simp[Dc']at h
def Dv':TypeDesc ->IntKind ->Bool
 | .int j,k=>mC' j k
 |_,_=>false
def B6(P:Program)(x:Nat×List (Nat×Nat×Bool)×List Nat):Bool:=
 match P.underlying x.1,P.info? x.1 with
 |some (.struct gs),some i=>(gs.toList.map (λf=>(f.offset,P.cellsOf f.type,tU P f.type))==x.2.1) &&
  gs.toList.all (λf=>(P.underlying f.type).isSome && (match P.info? f.type with|some j=>j.size !=0|none=>false)) &&
  (i.size==x.2.2.length) && (match i.zero with|some (.agg cs)=>Dc' x.2.2 cs.toList|_=>false)
 |_,_=>false
def B7(P:Program)(x:Nat×Nat):Bool:=
 match P.underlying x.1,P.info? x.1 with
 |some d,some i=>jz' d && (i.size==1) && (match i.zero with|some v=>zeq x.2 v && v.oneCell'|none=>false) &&
  (match x.2 with|1=>(match d with| .bool=>true|_=>false)|_=>true) && (match kJ' x.2 with|some k=>Dv' d k|none=>true)
 |_,_=>false
def B8(P:Program)(x:Nat×Nat×Nat×Nat):Bool:=
 match P.underlying x.1,P.info? x.2.1 with
 |some (.slice e),some i=>(e==x.2.1) && (i.size==x.2.2.1) && (i.bytes==x.2.2.2)
 |_,_=>false
def B9(P:Program)(τ:Tau):Bool:=τ.tab.all (B6 P) && τ.ones.all (B7 P) && τ.slcs.all (B8 P) && P.follows .mixedOrders
theorem Ic{P:Program}{τ:Tau}(h:B9 P τ=true):aU P τ:=by
 simp only[B9,Bool.and_eq_true,List.all_eq_true]at h;obtain⟨⟨⟨I,L⟩,M⟩,N⟩:=h;refine⟨λT Y z r=>?_,λT c r=>?_,λT e sz bs r=>?_,N⟩
 ·have:=I _ (dm r)
  unfold B6 at this;split at this
  ·rename_i O i u A
   simp only[Bool.and_eq_true,List.all_eq_true,beq_iff_eq]at this;obtain⟨⟨⟨B,D⟩,g⟩,m⟩:=this;refine⟨O,u,B,λf Q=>?_,i,A,g,?_⟩
   ·have:=D f Q
    obtain⟨U,F⟩:=this;refine⟨Option.isSome_iff_exists.1 U,?_⟩;split at F
    ·rename_i j H;exact⟨j,H,by simpa using F⟩
    ·cases F
   ·split at m
    ·rename_i Z V
     have:=sF' m;rw[V]
     congr 2
     exact Array.ext' (by simpa using this)
    ·cases m
  ·cases this
 ·have:=L _ (dm r)
  unfold B7 at this;split at this
  ·rename_i d i u A
   simp only[Bool.and_eq_true,beq_iff_eq]at this;obtain⟨⟨⟨⟨B,D⟩,g⟩,m⟩,E⟩:=this;split at g
   ·rename_i v W
    simp only[Bool.and_eq_true]at g;have e:=B5 g.1;subst e;refine⟨d,i,u,B,A,D,W,g.2,λX=>?_,λj H=>?_⟩
    ·subst X
     simp only at m;cases d<;>first|rfl|cases m
    ·simp only[H]at E
     unfold Dv' at E;split at E
     ·rw[B4 E]
     ·cases E
   ·cases g
  ·cases this
 ·have:=M _ (dm r)
  unfold B8 at this;split at this
  ·rename_i e' i u A
   simp only[Bool.and_eq_true,beq_iff_eq]at this;obtain⟨⟨B,D⟩,g⟩:=this;subst B;exact⟨u,i,A,D,g⟩
  ·cases this
theorem mq{P:Program}{τ:Tau}(hτ:aU P τ){T:Nat}{z:List Value}(h:τ.zero T=some z):∃i v,P.info? T=some i/\i.zero=some v/\v.cells=z.toArray/\i.size=z.length:=by
 unfold Tau.zero at h;split at h
 ·rename_i r u A
  obtain⟨F,B,D,m,i,g,f,j⟩:=hτ.tab T r u A;simp only[Option.some.injEq]at h;subst h;exact⟨i,_,g,j,by simp[Value.cells],by simp[f]⟩
 ·split at h
  ·rename_i c E
   obtain⟨d,i,B,H,g,f,j,I,_⟩:=hτ.ones T c E;simp only[Option.some.injEq]at h;subst h;refine⟨i,_,g,j,?_,by simp[f]⟩;cases L:zc c<;>simp_all [Value.cells,Value.oneCell']
  ·cases h
section
variable{P:Program}{τ:Tau}{n:Nat}{o:Oper}{a:Act}{s:St}{w:World}
theorem cZ{next:Act ->World ->Prop}{Q:Exit ->Act ->World ->Prop}{m:Sem Value}{k:St ->World ->Prop}
  (he:execOp a.eval o=(do pure (.value (<- m)))) (g:Fr n a s) (h:EvRun P m w λv w'=>put n s o.dst v λs'=>k s' w')
  (i:∀s' w' f,Fr n f s' ->k s' w' ->next f w'):o.wp P a w next Q:=by
 unfold EvRun at h;obtain⟨v,w',j,r⟩:=h;obtain⟨s',d,hs⟩:=g.put r;unfold Oper.wp;rw[he];have:(do pure (Next.value (<- m)):Sem Next).run P w= .ok (.value v) w':=by simp[j]
 rw[this];exact i _ _ _ d hs
theorem xf{next:Act ->World ->Prop}{Q:Exit ->Act ->World ->Prop}{m:Sem Unit}{k:St ->World ->Prop}
  (he:execOp a.eval o=(do m;pure .skip)) (g:Fr n a s) (h:EvRunU P m w λw'=>put n s o.dst undef λs'=>k s' w')
  (i:∀s' w' f,Fr n f s' ->k s' w' ->next f w'):o.wp P a w next Q:=by
 unfold EvRunU at h;obtain⟨w',j,r⟩:=h;obtain⟨s',d,hs⟩:=g.put r;unfold Oper.wp;rw[he];have:(do m;pure Next.skip:Sem Next).run P w= .ok .skip w':=by simp[j]
 rw[this];exact i _ _ _ d hs
theorem jo{next:Act ->World ->Prop}{Q:Exit ->Act ->World ->Prop}{v:Value}{k:St ->World ->Prop}
  (he:(execOp a.eval o).run P w= .ok (.value v) w) (g:Fr n a s) (h:put n s o.dst v λs'=>k s' w)
  (i:∀s' w' f,Fr n f s' ->k s' w' ->next f w'):o.wp P a w next Q:=by
 obtain⟨s',d,hs⟩:=g.put h;unfold Oper.wp;rw[he];exact i _ _ _ d hs
theorem br_cases{c:Bool}{A B:Prop}(h:Br c A B):(c=true/\A) \/(c=false/\B):=by
 cases c
 ·exact .inr ⟨rfl,h⟩
 ·exact .inl ⟨rfl,h⟩
theorem Ca{f:FuncId}{args:Array Value}(h:dO P f):(callFunc f args).run P w= .ok (.enter f args) w:=by
 obtain ⟨i, m, j, r⟩ := h;have d : ¬ i.name = "runtime.NumGoroutine" := by simpa using r
 have g:¬ i.body=none:=by intro e;rw[e]at j;cases j
 simp[callFunc,m,g,d]
theorem xg(op:BinOp)(T:TypeId)(x y:Operand)(j k:IntKind)(m l:Int):(eqGuard op T x y (.int j m) (.int k l)).run P w= .ok () w:=by
 cases op<;>simp[eqGuard]
theorem Cb(op:BinOp)(T:TypeId)(x y:Operand)(m l:Bool):(eqGuard op T x y (.bool m) (.bool l)).run P w= .ok () w:=by
 cases op<;>simp[eqGuard]
theorem Ie(hτ:aU P τ){op:BinOp}{T:TypeId}{x y:Operand}{u v:Value}{k:Value ->World ->Prop}(h:fX P τ op T x y u v w k):
  EvRun P (do eqGuard op T x y u v;binOp op T u v) w k:=by
 unfold fX at h;split at h
 ·rename_i j m z l
  split at h
  ·unfold EvRun at h ⊢
   obtain⟨v,w',f,g⟩:=h;exact⟨v,w',by simp[xg,f],g⟩
  ·rename_i hs
   have:=B4 hs;subst this;split at h
   all_goals (try replace h:=EvInt.elim h)
   all_goals (try unfold EvRun at h)
   all_goals unfold EvRun
   case h_10=>
    obtain⟨v,w',f,g⟩:=h;exact⟨v,w',by simp[xg,f],g⟩
   all_goals (refine⟨_,w,?_,h⟩;simp[xg,binOp,Op.intArith,Op.intCmp];try rfl)
   all_goals (by_cases e:m=l<;>simp[e])
 ·rename_i m l
  split at h
  ·rename_i hs
   obtain⟨d,_,i,_,_,_,_,_,r,_⟩:=hτ.ones T 1 hs;rw[r rfl]at i;unfold EvRun;split at h
   ·exact⟨_,w,by simp[Cb,run_eql_bool w T m l i],h⟩
   ·exact⟨_,w,by simp only[Sem.run_bind,Cb,Result.andThen_ok,run_neq_bool w T m l i];rfl,h⟩
   ·exact h.elim
  ·exact h.elim
 ·exact h
theorem If{op:UnOp}{u:Value}{k:Value ->World ->Prop}(h:tR P op u w k):EvRun P (Op.unary op u) w k:=by
 unfold tR at h;split at h
 ·unfold EvRun;exact⟨_,w,by simp[Op.unary],h⟩
 ·replace h:=EvInt.elim h;unfold EvRun;exact⟨_,w,by simp[Op.unary,Op.intArith],h⟩
 ·exact h
theorem mD':∀(vs:List Value) (cs:List Value) (o j:Nat),(vs.zipIdx j).foldl (λ(cs:Array Value) (p:Value×Nat)=>cs.setIfInBounds (o+p.2) p.1) cs.toArray=(lay cs (o+j) vs).toArray
 |[],cs,o,j=>by simp[lay]
 |v::r,cs,o,j=>by
  simp only[List.zipIdx_cons,List.foldl_cons,lay];have:=mD' r (cs.set (o+j) v) o (j+1);rw[show o+j+1=o+(j+1) by omega];rw[<- this];simp
theorem xh{d:Nat ->Option (Nat×Nat)}:∀(vs:List (Nat×Value)) (cs out:List Value),mn d cs vs=some out ->
  Instr.fill d cs.toArray vs=some out.toArray
 |[],cs,out,h=>by
  simp only[mn,Option.some.injEq]at h;subst h;simp[Instr.fill]
 |(i,v)::r,cs,out,h=>by
  simp only[mn]at h;simp only[Instr.fill];cases f:d i with
  |none=>rw[f]at h;simp at h
  |some q=>
   obtain⟨off,sz⟩:=q;rw[f]at h;simp only at h ⊢;split at h
   ·rename_i j m
    have u:=Nat.eq_of_beq_eq_true j;have A:=Nat.le_of_ble_eq_true m;have z:v.cells.size=sz:=by simpa using u
    rw[if_neg (by simp[z];omega)];have g:=mD' v.cells.toList cs off 0;have:=xh r (lay cs off v.cells.toList) out h;rw[<- this]
    congr 1
    rw[Nat.add_zero]at g;rw[<- g,<- Array.foldl_toList];simp[Array.toList_zipIdx]
   ·cases h
theorem Cc(z:List Value):∀n,(gI z n).length=n*z.length
 |0=>by simp[gI]
 |n+1=>by simp only[gI,List.length_append,Cc z n,Nat.succ_mul];omega
theorem Ce(z:List Value)(d:0<z.length):∀n i,i<n*z.length ->(gI z n)[i]?=z[i%z.length]?
 |0,i,h=>Uo
 |n+1,i,h=>by
  simp only[gI];rcases Nat.lt_or_ge i z.length with hi|hi
  ·rw[List.getElem?_append_left hi,Nat.mod_eq_of_lt hi]
  ·rw[List.getElem?_append_right hi,Ce z d n (i-z.length) (by rw[Nat.succ_mul]at h;omega)]
   rw[Nat.mod_eq_sub_mod hi]
theorem Cf(z:List Value)(n:Nat)(f:0<z.length):((Array.range (n*z.length)).map (z.toArray[· %z.toArray.size]!))=(gI z n).toArray:=by
 apply Array.ext';apply List.ext_getElem?;intro i;simp only[Array.toList_map,Array.toList_range,List.getElem?_map];rcases Nat.lt_or_ge i (n*z.length)with d|d
 ·rw[Ce z f n i d]
  have g:i%z.length<z.length:=Nat.mod_lt _ f;simp[d,g]
 ·rw[List.getElem?_eq_none (by simpa using d),List.getElem?_eq_none (by rw[Cc];exact d)]
  rfl
theorem qZ(a:Act)(xs:Array Operand):xs.map a.eval=(xs.toList.map a.eval).toArray:=Array.ext' Ud
theorem Ig(hτ:aU P τ){k:St ->World ->Prop}{kp:List PanicEntry ->St ->World ->Prop}{next:Act ->World ->Prop}{Q:Exit ->Act ->World ->Prop}
  (B:Fr n a s) (h:aW P τ n o s w k kp) (F:∀s' w' a',Fr n a' s' ->k s' w' ->next a' w')
  (hp:∀ch s' w' a',Fr n a' s' ->kp ch s' w' ->Q (.panic ch) a' w'):o.wp P a w next Q:=by
 cases D:o.op<;>simp only[aW,D]at h
 case move x=>exact jo (by simp[execOp,D]) B (B.wv h) F
 case assign x=>exact jo (by simp[execOp,D]) B (B.wv h) F
 case pick c x y=>
  have A:=B.wv h;split at A
  ·rename_i t ht
   rcases br_cases A with ⟨e,h2⟩|⟨e,h2⟩
   ·subst e;exact jo (by simp[execOp,D,ht,asBool]) B (B.wv h2) F
   ·subst e;exact jo (by simp[execOp,D,ht,asBool]) B (B.wv h2) F
  ·exact A.elim
 case alloc T=>
  split at h
  ·rename_i z hz
   obtain⟨i,v,hi,hv,L,_⟩:=mq hτ hz
   replace h:=EvNew.elim h
   refine cZ (m:=Instr.alloc T true (.tuple #[])) (by simp[execOp,D]) B ?_ F;unfold EvRun;refine⟨_,_,?_,h⟩;simp[Instr.alloc,zeroValue,typeInfo,hi,hv,newVar,newRow,L]
  ·exact cZ (by simp[execOp,D]) B h F
 case box T x=>
  have A:=B.wv h
  replace A:=EvNew.elim A
  refine cZ (m:=Instr.box T (a.eval x)) (by simp[execOp,D]) B ?_ F;unfold EvRun;refine⟨_,_,?_,A⟩;simp[Instr.box,newVar,newRow]
 case build T ps=>
  have A:=B.wvp _ _ h;have hm:(ps.map λp=>(p.1,a.eval p.2))=(ps.toList.map λp=>(p.1,a.eval p.2)).toArray:=Array.ext' Ud;split at A
  ·rename_i fs z X
   split at A
   ·rename_i cs L
    obtain⟨gs,O,Y,I,i,hi,_,hz⟩:=hτ.tab T fs z X;refine jo (v:=.agg cs.toArray) ?_ B A F;have a2:∀(l:List Field),(∀f∈l,(∃d,P.underlying f.type=some d)/\∃i,P.info? f.type=some i/\i.size≠0) ->(l.mapM (m:=Sem) λf=>do pure (f.offset,<- sizeOf f.type)).run P w= .ok (l.map λf=>(f.offset,P.cellsOf f.type)) w:=by
     intro l
     induction l with
     |nil=>intro _;simp
     |cons f l ih=>
      intro hl;obtain⟨_,j,hj,_⟩:=hl f Ud;have:=ih λg W=>hl g (by simp[W]);have H:(sizeOf f.type).run P w= .ok (P.cellsOf f.type) w:=by simp[sizeOf,typeInfo,hj,Program.cellsOf]
      simp only[List.mapM_cons,Sem.run_bind,H,Result.andThen_ok,Sem.run_pure,this,List.map_cons]
    have b5:(gs.mapM (m:=Sem) λf=>do pure (f.offset,<- sizeOf f.type)).run P w= .ok (gs.toList.map λf=>(f.offset,P.cellsOf f.type)).toArray w:=by
     rw[Array.mapM_eq_mapM_toList];have:=a2 gs.toList I;simp only[bind_pure_comp]at this ⊢;simp[this]
    have b6:qY fs=λi=>(gs.toList.map λf=>(f.offset,P.cellsOf f.type)).toArray[i]?:=by
     funext i
     unfold qY;rw[gq,<- Y];simp only[List.getElem?_map,List.getElem?_toArray];cases gs.toList[i]?<;>rfl
    rw[b6]at L;have a6:=xh _ _ _ L;simp only[execOp,D,Instr.build,Sem.run_bind,zeroValue,typeInfo,run_program,Result.andThen_ok,hi,Sem.run_pure,hz,run_underlying O,b5];simp only[hm];simp only[Value.cells];rw[a6];simp
   ·exact A.elim
  ·rw[<- hm]at A
   exact cZ (by simp[execOp,D]) B A F
 case buildSlice T len ps=>
  have A:=B.wvp _ _ h;have hm:(ps.map λp=>(p.1,a.eval p.2))=(ps.toList.map λp=>(p.1,a.eval p.2)).toArray:=Array.ext' Ud;split at A
  ·rename_i e sz bs hs
   obtain⟨O,i,hi,H,_⟩:=hτ.slcs T e sz bs hs;split at A
   ·rename_i z hz
    obtain⟨i',v,a7,hv,b7,b2⟩:=mq hτ hz;have:i'=i:=by rw[a7]at hi;simpa using hi
    subst this;split at A
    ·rename_i b8 b9
     unfold EvFill at A;obtain⟨cs,L,A⟩:=A;have e1:=Nat.le_of_ble_eq_true b8;have e2:=Nat.le_of_ble_eq_true b9
     replace A:=EvNew.elim A
     refine cZ (m:=Instr.buildSlice T len (ps.map λp=>(p.1,a.eval p.2))) (by simp[execOp,D]) B ?_ F;unfold EvRun;refine⟨_,_,?_,A⟩;have V:=xh _ _ _ L;have b3:z.length=sz:=by rw[<- b2,H]
     have X:=Cf z len Uo;rw[b3]at X;have a8:(sizeOf e).run P w= .ok sz w:=by simp[sizeOf,typeInfo,a7,H]
     have a9:(zeroValue e).run P w= .ok v w:=by simp[zeroValue,typeInfo,a7,hv]
     have e6:z.toArray.size=sz:=by simp[b3]
     simp only[Instr.buildSlice,Sem.run_bind,run_underlying O,Result.andThen_ok,a8];rw[if_neg Uo]
     by_cases h0:len*sz=0
     ·have b':len=0:=by
       rcases Nat.mul_eq_zero.1 h0 with h|h
       ·exact h
       ·omega
      subst b';simp only[Nat.zero_mul,if_true,gI]at V ⊢;simp only[Sem.run_bind,Sem.run_pure,Result.andThen_ok];have:(Array.range 0).map (λx=>(#[]:Array Value)[x%(#[]:Array Value).size]!)= #[]:=Ud
      rw[this,hm];rw[V];simp[newRow]
     ·rw[Sem.run_ite,if_neg h0]
      simp only[Sem.run_bind,a9,Result.andThen_ok,Sem.run_pure,b7,X,hm];rw[V];simp[newRow]
    ·exact A.elim
   ·rw[<- hm]at A
    exact cZ (by simp[execOp,D]) B A F
  ·rw[<- hm]at A
   exact cZ (by simp[execOp,D]) B A F
 case load T x=>
  have A:=B.wv h;split at A
  ·rename_i ad N
   refine cZ (m:=Instr.loadAt T (a.eval x)) (by simp[execOp,D]) B ?_ F;rw[N];split at A
   ·rename_i fs z X
    obtain⟨gs,O,Y,I,i,hi,H,hz⟩:=hτ.tab T fs z X;unfold EvLdN at A;obtain⟨cs,hl,L,M⟩:=A;unfold EvRun;refine⟨_,w,?_,M⟩;have:=run_loadCells_list (P:=P) (w:=w) ad cs L;rw[hl]at this;simp[Instr.loadAt,Instr.sureAddr,loadVar,isAgg,run_underlying O,sizeOf,typeInfo,hi,H,this]
   ·split at A
    ·rename_i c L
     obtain⟨d,i,O,hn,hi,H,hz,c1,_⟩:=hτ.ones T c L;unfold EvLd at A;obtain⟨v,hv,M⟩:=A;unfold EvRun;refine⟨v,w,?_,M⟩;cases d<;>simp_all [Instr.loadAt,Instr.sureAddr,loadVar,isAgg,run_underlying O,jz']
    ·rw[N]at A;exact A
  ·exact A.elim
 case store T x y=>
  have A:=B.wv (B.wv h);split at A
  ·rename_i ad N
   refine xf (m:=Instr.storeAt T (a.eval x) (a.eval y)) (by simp[execOp,D]) B ?_ F;rw[N];split at A
   ·rename_i c L
    obtain⟨d,i,O,hn,hi,H,hz,c1,_⟩:=hτ.ones T c L;unfold EvSt at A;obtain⟨⟨u,Z⟩,c2,c3,M⟩:=A;unfold EvRunU;refine⟨_,?_,M⟩;have a4:(a.eval y).cells= #[a.eval y]:=by
     cases hy:a.eval y<;>simp_all [Value.cells,Value.oneCell']
    have a5:=run_store P w ad (a.eval y) .plain c3;simp only[Z,c2,Bool.false_eq_true,if_false]at a5;have c4:ad.add 0=ad:=by simp[Addr.add]
    simp[Instr.storeAt,Instr.sureAddr,storeVar,a4,sizeOf,typeInfo,hi,H,storeCells,c4,a5]
   ·split at A
    ·rename_i fs z cs X hv
     obtain⟨gs,O,Y,I,i,hi,H,hz⟩:=hτ.tab T fs z X;split at A
     ·rename_i hb
      have e1:=Nat.eq_of_beq_eq_true hb;unfold EvRunU at A ⊢;obtain⟨w',a5,M⟩:=A;refine⟨w',?_,M⟩;have e2:cs.size=z.length:=by simpa using e1
      simp[Instr.storeAt,Instr.sureAddr,storeVar,hv,Value.cells,sizeOf,typeInfo,hi,H,e2,a5]
     ·exact A.elim
    ·rw[N]at A;exact A
  ·exact A.elim
 case binOp op T x y U=>exact cZ (m:=do eqGuard op T x y (a.eval x) (a.eval y);binOp op T (a.eval x) (a.eval y)) (by simp[execOp,D]) B (Ie hτ (B.wv (B.wv h))) F
 case unOp op T x=>exact cZ (m:=Op.unary op (a.eval x)) (by simp[execOp,D]) B (If (B.wv h)) F
 case convert T U x=>
  have A:=B.wv h;refine cZ (m:=convert T U (a.eval x)) (by simp[execOp,D]) B ?_ F;split at A
  ·rename_i j0 m c0 c N hT hU
   split at A
   ·rename_i j hj
    obtain⟨d,i,O,_⟩:=hτ.ones T c0 hT;obtain⟨d',i',Z,_,_,_,_,_,_,c5⟩:=hτ.ones U c hU;have:=c5 j hj;subst this
    replace A:=EvInt.elim A
    unfold EvRun;refine⟨_,w,?_,A⟩;rw[N];simp[convert,run_underlying O,run_underlying Z,Conv.intToInt]
   ·exact A
  ·exact A
 case makeInterface T x=>exact cZ (by simp[execOp,D]) B (B.wv h) F
 case makeFunc fn first E=>
  have A:=B.wvs _ _ (B.wvs _ _ h);refine jo (v:=.func fn (first.map a.eval) (E.map a.eval)) (by simp[execOp,D,Instr.makeFunc]) B ?_ F;rw[qZ,qZ];exact A
 case makeMap T r=>
  cases r with
  |none=>exact cZ (by simp[execOp,D]) B h F
  |some r=>exact cZ (by simp[execOp,D]) B (B.wv h) F
 case makeSlice T l c=>exact cZ (by simp[execOp,D]) B (B.wv (B.wv h)) F
 case slice T x lo hi mx=>exact cZ (by simp[execOp,D]) B (B.wvo (B.wvo (B.wvo (B.wv h)))) F
 case fieldAddr T x f=>
  have A:=B.wv h;split at A
  ·rename_i ad fs z N X
   split at A
   ·rename_i a0 sz ag V
    obtain⟨gs,O,Y,I,_⟩:=hτ.tab T fs z X;rw[gq,<- Y]at V;simp only[List.getElem?_map]at V;cases W:gs.toList[f]? with
    |none=>simp[W]at V
    |some g=>
     simp[W]at V;obtain⟨ho,_,_⟩:=V;obtain⟨_,j,hj,H⟩:=I g (List.mem_of_getElem? W);have a3:gs[f]?=some g:=by simpa using W
     refine jo (v:=.pointer (some (ad.add a0))) ?_ B A F;simp[execOp,D,Instr.fieldAt,run_underlying O,a3,N,Instr.sureAddr,fieldPlace,sizeOf,typeInfo,hj,H,ho]
   ·exact A.elim
  ·exact A.elim
 case field T x f=>
  have A:=B.wv h;split at A
  ·rename_i cs fs z N X
   obtain⟨gs,O,Y,I,_⟩:=hτ.tab T fs z X;split at A
   ·rename_i a0 sz V
    rw[gq,<- Y]at V;simp only[List.getElem?_map]at V;cases W:gs.toList[f]? with
    |none=>simp[W]at V
    |some g=>
     simp[W]at V;obtain⟨ho,hs,a1⟩:=V;obtain⟨⟨d,hd⟩,j,hj,H⟩:=I g (List.mem_of_getElem? W);have a3:gs[f]?=some g:=by simpa using W
     refine jo (v:=_) ?_ B A F;have c6:j.size=sz:=by rw[<- hs];simp[Program.cellsOf,hj]
     unfold tU at a1;rw[hd]at a1;have c7:(cs.extract a0 (a0+sz))=((cs.toList.drop a0).take sz).toArray:=by
      apply Array.ext';simp[List.extract_eq_take_drop]
     cases d<;>simp[jz']at a1<;>
      simp[execOp,D,Instr.field,run_underlying O,a3,N,asAgg,part,isAgg,run_underlying hd,sizeOf,typeInfo,hj,c6,ho,c7]
   ·rename_i a0 sz V
    rw[gq,<- Y]at V;simp only[List.getElem?_map]at V;cases W:gs.toList[f]? with
    |none=>simp[W]at V
    |some g=>
     simp[W]at V;obtain⟨ho,hs,a1⟩:=V;obtain⟨⟨d,hd⟩,j,hj,H⟩:=I g (List.mem_of_getElem? W);have a3:gs[f]?=some g:=by simpa using W
     split at A
     ·rename_i u Z
      rw[gq]at Z;have b4:cs[a0]?=some u:=by simpa using Z
      refine jo (v:=u) ?_ B A F;unfold tU at a1;rw[hd]at a1;cases d<;>simp[jz']at a1<;>
       simp[execOp,D,Instr.field,run_underlying O,a3,N,asAgg,part,isAgg,run_underlying hd,ho,b4]
     ·exact A.elim
   ·exact A.elim
  ·exact A.elim
 case indexAddr T x i=>
  have A:=B.wv (B.wv h);refine cZ (m:=Instr.indexAt T (a.eval x) (a.eval i)) (by simp[execOp,D]) B ?_ F;split at A
  ·rename_i ad len cap j m e sz bs N hi hs
   obtain⟨O,e7,I,H,_⟩:=hτ.slcs T e sz bs hs;unfold EvIx at A;obtain⟨e8,rfl,h0,c8,M⟩:=A;unfold EvRun;refine⟨_,w,?_,M⟩;rw[N,hi];simp[Instr.indexAt,asIntOf,run_underlying O,h0,c8,sizeOf,typeInfo,I,H]
  ·exact A
 case index T x i=>exact cZ (by simp[execOp,D]) B (B.wv (B.wv h)) F
 case lookup T x i ok=>exact cZ (by simp[execOp,D]) B (B.wv (B.wv h)) F
 case mapUpdate T m i x=>exact xf (by simp[execOp,D]) B (B.wv (B.wv (B.wv h))) F
 case insert T m i x=>exact xf (by simp[execOp,D]) B (B.wv (B.wv (B.wv h))) F
 case range T x=>exact cZ (by simp[execOp,D]) B (B.wv h) F
 case next x b=>exact cZ (by simp[execOp,D]) B (B.wv h) F
 case entry x=>exact cZ (by simp[execOp,D]) B (B.wv h) F
 case typeAssert x T U ok=>exact cZ (by simp[execOp,D]) B (B.wv h) F
 case extract x i=>
  have A:=B.wv h;split at A
  ·rename_i vs N
   split at A
   ·rename_i u O
    rw[gq]at O;have Z:vs[i]?=some u:=by simpa using O
    exact jo (v:=u) (by simp[execOp,D,Instr.extract,N,Z]) B A F
   ·exact A.elim
  ·exact A.elim
 case call c=>
  cases L:c.callee with
  |value f=>
   simp only[L]at h;have A:=B.wvs _ _ (B.wv h);unfold tS at A;split at A
   ·rename_i g first E W
    unfold EvCall at A;obtain⟨c9,b0⟩:=A;have X:(execOp a.eval o).run P w= .ok (.enter g (first++(c.args.toList.map a.eval).toArray++E)) w:=by
     simp only[execOp,D,resolve,L,W,Deferred.ofValue,Sem.run_bind,Sem.run_pure,Result.andThen_ok,invoke];rw[Ca c9,qZ]
    unfold Oper.wp;rw[X,Oper.upon_enter];refine b0.mono λe w' he=>?_;cases e with
    |returned v=>
     have c':put n s o.dst v λs'=>k s' w':=he;obtain⟨s',b1,hs⟩:=B.put c';exact F _ _ _ b1 hs
    |panicked ch=>exact hp _ _ _ _ B he
    |outgrown=>exact he.elim
   ·exact A.elim
  |builtin b=>
   simp only[L]at h;have A:=B.wvs _ _ h;have e1:(c.args.toList.map a.eval).toArray=c.args.map a.eval:=(qZ a c.args).symm;simp only[e1]at A;cases b<;>simp only at A
   case len=>
    refine cZ (m:=Builtin.len_ c.argTypes o.type (c.args.map a.eval)) (by simp[execOp,D,resolve,L,invoke,builtin]) B ?_ F;split at A
    ·rename_i ad m cap T e0 e3
     split at A
     ·rename_i q hs
      obtain⟨e,sz,bs⟩:=q;obtain⟨O,_⟩:=hτ.slcs T e sz bs hs;unfold EvRun;refine⟨_,w,?_,A⟩;rw[<- e1,e0];have e4:c.argTypes= #[T]:=Array.ext' (by simpa using e3);rw[e4];simp[Builtin.len_,run_underlying O,goInt]
     ·exact A
    ·exact A
   case append=>exact cZ (by simp[execOp,D,resolve,L,invoke,builtin]) B A F
   case cap=>exact cZ (by simp[execOp,D,resolve,L,invoke,builtin]) B A F
   case copy=>exact cZ (by simp[execOp,D,resolve,L,invoke,builtin]) B A F
   case min=>exact cZ (by simp[execOp,D,resolve,L,invoke,builtin]) B A F
   case max=>exact cZ (by simp[execOp,D,resolve,L,invoke,builtin]) B A F
   case clear=>exact cZ (by simp[execOp,D,resolve,L,invoke,builtin]) B A F
   case delete=>exact cZ (by simp[execOp,D,resolve,L,invoke,builtin]) B A F
  |invoke r m=>simp only[L]at h
 case defer c=>
  cases L:c.callee with
  |value f=>
   simp only[L]at h;have A:=B.wvs _ _ (B.wv h);split at A
   ·rename_i fn first E W
    have X:(execOp a.eval o).run P w= .ok (.defer {target:=.fn fn E,args:=first++(c.args.toList.map a.eval).toArray}) w:=by
     simp only[execOp,D,resolve,L,W,Deferred.ofValue,Sem.run_bind,Sem.run_pure,Result.andThen_ok];rw[qZ]
    have e5:Fr n {a with defers:={target:=.fn fn E,args:=first++(c.args.toList.map a.eval).toArray}::a.defers} ⟨s.e,{target:=.fn fn E,args:=first++(c.args.toList.map a.eval).toArray}::s.d⟩:=
     ⟨B.size,by simp[B.defers],B.has⟩
    obtain⟨s',b1,hs⟩:=e5.put A;unfold Oper.wp;rw[X,Oper.upon_defer];exact F _ _ _ b1 hs
   ·exact A.elim
  |builtin b=>simp only[L]at h
  |invoke r m=>simp only[L]at h
 case nilCheck x=>
  have A:=B.wv h;split at A
  ·rename_i ad N
   exact jo (by simp[execOp,D,N]) B A F
  ·rename_i f us vs N
   exact jo (by simp[execOp,D,N]) B A F
  ·rename_i t u N
   exact jo (by simp[execOp,D,N]) B A F
  ·exact A.elim
 case panic x=>
  have A:=B.wv h;split at A
  ·rename_i t u N
   unfold Oper.wp;have X:(execOp a.eval o).run P w= .halt (.panic (.iface t u)) w:=by simp[execOp,D,N,Instr.panic]
   rw[X,Oper.upon_panic];exact hp _ _ _ _ B A
  ·exact A.elim
theorem Ih(l:List Oper)(j:Nat):lj l j=(l.toArray[j]?).bind (·.dst):=by
 unfold lj;rw[gq];cases h:l[j]?<;>simp[h]
theorem Ii{l:List Oper}{j:Nat}{f:Bool}{d:Nat}{v:Value}(h:o.guard=some (j,f))(g:lj l j=some d)(i:a.tmps[d]?=some v):
  Region.wanted o (yielded l.toArray a.tmps)=((match v with| .bool b=>some b|_=>none)==some f):=by
 rw[Ih]at g;simp only[Region.wanted,h,yielded,g,Option.bind_some,i];cases v<;>rfl
theorem tV(hτ:aU P τ){l:List Oper}{k:St ->World ->Prop}{kp:List PanicEntry ->St ->World ->Prop}{Q:Exit ->Act ->World ->Prop}
  (M:∀s' w' A,Fr n A s' ->k s' w' ->Q .normal A w') (N:∀ch s' w' A,Fr n A s' ->kp ch s' w' ->Q (.panic ch) A w'):
  ∀(r:List Oper) (s:St) (w:World) (a:Act),Fr n a s ->fY P τ n l k kp r s w ->wpList P l.toArray Q r a w
 |[],s,w,a,z,h=>M _ _ _ z h
 |o::r,s,w,a,z,h=>by
  have O:=tV hτ (l:=l) (Q:=Q) M N r;have g:∀(f:St),Fr n a f ->aW P τ n o f w (fY P τ n l k kp r) kp ->o.wp P a w (wpList P l.toArray Q r) Q:=λf m u=>
   Ig hτ m u (λs' w' A B hs=>O s' w' A B hs) N
  have i:∀(f:St),Fr n a f ->(put n f o.dst undef λs'=>fY P τ n l k kp r s' w) ->wpList P l.toArray Q r (a.put o.dst undef) w:=λf m u=>by
   obtain⟨s',B,hs⟩:=m.put u;exact O s' w _ B hs
  rw[mp]at h;unfold wpList;cases I:o.guard with
  |none=>
   rw[I]at h;rw[if_pos (by simp[Region.wanted,I])];exact .inl (g s z h)
  |some q=>
   obtain⟨j,E⟩:=q;rw[I]at h;simp only at h;cases L:lj l j with
   |none=>rw[L]at h;exact h.elim
   |some d=>
    rw[L]at h;simp only at h;cases D:get s.e d with
    |none=>rw[D]at h;exact h.elim
    |some v=>
     rw[D]at h;have F:=Ii (a:=a) I L (z.has d v D);cases v<;>simp only at h
     case bool c=>
      cases E<;>simp only at h<;>rcases br_cases h with ⟨e,H⟩|⟨e,H⟩<;>subst e
      ·rw[if_neg (by rw[F];simp)]
       exact i _ (z.again D) H
      ·rw[if_pos (by rw[F];simp)]
       exact .inl (g _ (z.again D) H)
      ·rw[if_pos (by rw[F];simp)]
       exact .inl (g _ (z.again D) H)
      ·rw[if_neg (by rw[F];simp)]
       exact i _ (z.again D) H
     case tuple U=>
      rw[if_neg (by rw[F];simp)];exact i _ z h
theorem nw(hτ:aU P τ):∀(c:Code) (s:St) (w:World) (K:Exit ->St ->World ->Prop),jK P τ n c s w K ->∀a,Fr n a s ->c.wp P (lift n K) a w:=by
 intro c
 induction c with
 |skip=>exact λs w K h a g=>wp_skip ⟨s,g,h⟩
 |region id z A=>
  intro s w K h a g;cases A with
  |true=>unfold jK at h;simp only at h;unfold EvCode at h;exact h a g
  |false=>
   refine wp_region_list ?_;have:=tV hτ (n:=n) (l:=z.toList) (Q:=lift n K) (k:=K .normal) (kp:=λB=>K (.panic B)) (λi w' D d hs=>⟨i,d,hs⟩) (λB i w' D d hs=>⟨i,d,hs⟩) z.toList s w a g h
   simpa using this
 |seq x y r u=>
  intro s w K h a g;refine wp_seq<|Go.wp_mono (r s w _ h a g) λe D w' E=>?_;obtain⟨i,d,hs⟩:=E;cases e with
  |normal=>exact u i w' K hs D d
  |exit id=>exact⟨i,d,hs⟩
  |goto l=>exact⟨i,d,hs⟩
  |ret=>exact⟨i,d,hs⟩
  |panic B=>exact⟨i,d,hs⟩
  |outgrown=>exact⟨i,d,hs⟩
 |cond c x y r u=>
  intro s w K h a g;have F:=g.wv h;split at F
  ·rename_i t M
   rcases br_cases F with ⟨e,H⟩|⟨e,H⟩
   ·subst e;exact wp_cond_true M (r s w K H a g)
   ·subst e;exact wp_cond_false M (u s w K H a g)
  ·exact F.elim
 |block id x I=>
  intro s w K h a g;refine wp_block<|Go.wp_mono (I s w _ h a g) λe D w' E=>?_;obtain⟨i,d,hs⟩:=E;cases e with
  |normal=>exact⟨i,d,hs⟩
  |exit j=>
   simp only[Exit.inBlock];simp only[B3]at hs
   by_cases L:j=id
   ·subst L;rw[if_pos rfl];simp at hs;exact⟨i,d,hs⟩
   ·rw[if_neg L]
    have:Nat.beq j id=false:=by
     cases N:Nat.beq j id with
     |true=>exact absurd (Nat.eq_of_beq_eq_true N) L
     |false=>rfl
    rw[this]at hs;exact⟨i,d,hs⟩
  |goto l=>exact⟨i,d,hs⟩
  |ret=>exact⟨i,d,hs⟩
  |panic B=>exact⟨i,d,hs⟩
  |outgrown=>exact⟨i,d,hs⟩
 |exit id=>exact λs w K h a g=>wp_exit ⟨s,g,h⟩
 |ret=>exact λs w K h a g=>wp_ret ⟨s,g,h⟩
 |label l=>exact λs w K h a g=>wp_label ⟨s,g,h⟩
 |loop x I=>intro s w K h a g;unfold jK at h;simp only at h;unfold EvCode at h;exact h a g
 |rangeFunc f O x y r u=>intro s w K h a g;unfold jK at h;simp only at h;unfold EvCode at h;exact h a g
 |scope x I=>intro s w K h a g;unfold jK at h;simp only at h;unfold EvCode at h;exact h a g
 |goto l=>intro s w K h a g;unfold jK at h;simp only at h;unfold EvCode at h;exact h a g
 |refuse m=>intro s w K h a g;unfold jK at h;simp only at h;unfold EvCode at h;exact h a g
end
def ini:List Value ->Nat ->List (Nat×Value)
 |[],_=>[]
 |v::r,i=>(i,v)::ini r (i+1)
def kr(P:Program)(s:St)(l:List ResultVar):World ->(List Value ->Prop) ->Prop:=
 List.rec (motive:=λ_=>World ->(List Value ->Prop) ->Prop) (λ_ k=>k []) (λx _ ih w k=>match x with
  | .tmp t=>match get s.e t with
   |some v=>ih w λvs=>k (v::vs)
   |none=>False
  | .cell t T=>match get s.e t with
   |some (.pointer (some a))=>EvRun P (loadVar T a) w λv w'=>w'=w/\ih w λvs=>k (v::vs)
   |_=>False) l
theorem Cg(P:Program)(s:St)(t:Nat)(r:List ResultVar)(w:World)(k:List Value ->Prop):kr P s (.tmp t::r) w k=(match get s.e t with
   |some v=>kr P s r w λvs=>k (v::vs)
   |none=>False):=rfl
theorem xi(P:Program)(s:St)(t:Nat)(T:TypeId)(r:List ResultVar)(w:World)(k:List Value ->Prop):kr P s (.cell t T::r) w k=(match get s.e t with
   |some (.pointer (some a))=>EvRun P (loadVar T a) w λv w'=>w'=w/\kr P s r w λvs=>k (v::vs)
   |_=>False):=rfl
def one:List Value ->Value
 |[v]=>v
 |vs=>.tuple vs.toArray
def jp(P:Program)(rs:List ResultVar)(R:Ending ->World ->Prop):Exit ->St ->World ->Prop
 | .normal,s,w=>match s.d with
  |[]=>kr P s rs w λvs=>R (.returned (one vs)) w
  |_=>False
 | .ret,s,w=>match s.d with
  |[]=>kr P s rs w λvs=>R (.returned (one vs)) w
  |_=>False
 | .panic ch,s,w=>match s.d with
  |[]=>R (.panicked ch) w
  |_=>False
 | .outgrown,_,w=>R .outgrown w
 |_,_,_=>False
theorem lt':∀(l:List Value) (i t:Nat) (v:Value),get (ini l i) t=some v ->i<=t/\l[t-i]?=some v
 |[],i,t,v,h=>by simp[ini,B1]at h
 |u::r,i,t,v,h=>by
  simp only[ini,eQ]at h;cases hb:Nat.beq i t with
  |true=>
   rw[hb]at h;have e:=Nat.eq_of_beq_eq_true hb;subst e;have:u=v:=by simpa using h
   subst this;simp
  |false=>
   rw[hb]at h;obtain⟨f,d⟩:=lt' r (i+1) t v h;refine⟨Uo,?_⟩;rw[show t-i=(t-(i+1))+1 by omega]
   simpa using d
def py(tmps:Array Value):ResultVar ->Sem Value
 | .tmp t=>pure (tmps.getD t undef)
 | .cell ad t=>do loadVar t (<- asAddr (tmps.getD ad undef))
theorem xj{P:Program}{a:Act}{s:St}{n:Nat}(d:Fr n a s):∀(rs:List ResultVar) (w:World) (k:List Value ->Prop),kr P s rs w k ->
  ∃vs,(rs.mapM (m:=Sem) (py a.tmps)).run P w= .ok vs w/\vs.length=rs.length/\k vs
 |[],w,k,h=>⟨[],Ud,rfl,h⟩
 | .tmp t::r,w,k,h=>by
  rw[Cg]at h;split at h
  ·rename_i v f
   obtain⟨vs,h1,h2,h3⟩:=xj d r w _ h;have g:a.tmps.getD t undef=v:=by simp[d.has t v f]
   refine⟨v::vs,?_,by simp[h2],h3⟩;have i:(py a.tmps (.tmp t)).run P w= .ok v w:=by simp[py,g]
   simp only[List.mapM_cons,Sem.run_bind,Sem.run_pure,Result.andThen_ok,i,h1]
  ·exact h.elim
 | .cell t T::r,w,k,h=>by
  rw[xi]at h;split at h
  ·rename_i j f
   unfold EvRun at h;obtain⟨v,w',u,rfl,z⟩:=h;obtain⟨vs,h1,h2,h3⟩:=xj d r w' _ z;have g:a.tmps.getD t undef= .pointer (some j):=by simp[d.has t _ f]
   refine⟨v::vs,?_,by simp[h2],h3⟩;have i:(py a.tmps (.cell t T)).run P w'= .ok v w':=by simp[py,g,asAddr,u]
   simp only[List.mapM_cons,Sem.run_bind,Sem.run_pure,Result.andThen_ok,i,h1]
  ·exact h.elim
theorem ra{P:Program}{fn:Func}{a:Act}{s:St}{n:Nat}(f:Fr n a s){w:World}{k:List Value ->Prop}(h:kr P s fn.results.toList w k):
  ∃vs,(results fn a.tmps).run P w= .ok (one vs) w/\k vs:=by
 obtain⟨vs,d,i,g⟩:=xj f _ _ _ h;refine⟨vs,?_,g⟩;have e:results fn a.tmps=(do let vs<- fn.results.mapM (py a.tmps);pure (if h:vs.size=1 then vs[0]else .tuple vs)):=rfl;rw[e,Array.mapM_eq_mapM_toList];simp only[bind_pure_comp,Sem.run_map]at d ⊢;rw[d];simp only[Result.andThen_ok]
 match vs with
 |[]=>simp[one]
 |[v]=>simp[one]
 |u::v::r=>simp[one]
theorem Ij{P:Program}{τ:Tau}{f:FuncId}{fn:Func}{c:Code}{args:List Value}{w:World}{R:Ending ->World ->Prop}(n:Nat)(rs:List ResultVar)(hτ:aU P τ)
  (z:P.funcs[f]?=some fn) (hb:fn.body=some c) (A:fn.ntmps=n) (j:fn.results.toList=rs) (B:args.length<=n)
  (h:jK P τ n c ⟨ini args 0,[]⟩ w (jp P rs R)):Calls P f args.toArray w R:=by
 subst A j;refine calls_of_wp z hb ?_;have D:Fr fn.ntmps {tmps:=args.toArray++Array.replicate (fn.ntmps-args.toArray.size) undef,defers:=[] } ⟨ini args 0,[]⟩:=by
  refine⟨Uk,rfl,λt v E=>?_⟩;obtain⟨_,d⟩:=lt' _ _ _ _ E;rw[Nat.sub_zero]at d;have m:t<args.length:=(List.getElem?_eq_some_iff.1 d).1;rw[Array.getElem?_append_left (by simpa using m)]
  simpa using d
 refine Go.wp_mono (nw hτ c _ w _ h _ D) λe I w' F=>?_;obtain⟨s,g,hs⟩:=F;have r:=g.defers;cases e with
 |normal=>
  simp only[jp]at hs;split at hs
  ·rename_i i
   obtain⟨H,u,d⟩:=ra g hs;exact⟨by rw[r,i],_,u,d⟩
  ·exact hs.elim
 |ret=>
  simp only[jp]at hs;split at hs
  ·rename_i i
   obtain⟨H,u,d⟩:=ra g hs;exact⟨by rw[r,i],_,u,d⟩
  ·exact hs.elim
 |panic L=>
  simp only[jp]at hs;split at hs
  ·rename_i i
   exact⟨by rw[r,i],hs⟩
  ·exact hs.elim
 |outgrown=>exact hs
 |exit id=>exact hs.elim
 |goto l=>exact hs.elim
theorem br{c:Bool}{A B:Prop}(h1:c=true ->A)(h2:c=false ->B):Br c A B:=by
 cases c
 ·exact h2 rfl
 ·exact h1 rfl
theorem dH{p:Prop} [Decidable p]{A B:Prop}(h1:p ->A)(h2:¬ p ->B):Br (decide p) A B:=
 br (λh=>h1 (of_decide_eq_true h)) (λh=>h2 (of_decide_eq_false h))
theorem tW{c:Bool}{A B:Prop}(h:c=true)(d:A):Br c A B:=by subst h;exact d
theorem tX{c:Bool}{A B:Prop}(h:c=false)(d:B):Br c A B:=by subst h;exact d
theorem Ik{r:Int}{k:Value ->Prop}(h1:-9223372036854775808<=r)(h2:r<=9223372036854775807)(d:k (.int .i64 r)):EvInt .i64 r k:=by
 unfold EvInt;exact⟨_,rfl,by rw[IntWalk.i64_in r Uo];exact d⟩
theorem xk{j:IntKind}{r:Int}{k:Value ->Prop}(d:k (.int j (j.wrap r))):EvInt j r k:=by
 unfold EvInt;exact⟨_,rfl,d⟩
theorem pz{j:IntKind}{r:Int}{k:Value ->Prop}(x:Int)(h:j.wrap r=x)(d:k (.int j x)):EvInt j r k:=by
 subst h;exact xk d
theorem run{P:Program}{m:Sem Value}{w w':World}{v:Value}{k:Value ->World ->Prop}(h:m.run P w= .ok v w')(d:k v w'):EvRun P m w k:=by
 unfold EvRun;exact⟨v,w',h,d⟩
theorem tY{P:Program}{m:Sem Unit}{w w':World}{k:World ->Prop}(h:m.run P w= .ok () w')(d:k w'):EvRunU P m w k:=by
 unfold EvRunU;exact⟨w',h,d⟩
theorem ld{w:World}{a:Addr}{v:Value}{k:Value ->Prop}(h:w.cell? a=some v)(d:k v):EvLd w a k:=by
 unfold EvLd;exact⟨v,h,d⟩
theorem pA(b o n:Nat):(⟨b,o,none⟩:Addr).add n=⟨b,o+n,none⟩:=by
 unfold Addr.add;split
 ·rename_i h;subst h;rfl
 ·rfl
theorem ix{b o len sz:Nat}{i:Int}{k:Addr ->Prop}(j:Nat)(hi:i=j)(h1:j<len)(d:k ⟨b,o+j*sz,none⟩):EvIx (some ⟨b,o,none⟩) len sz i k:=by
 unfold EvIx;refine⟨_,rfl,Uo,Uo,?_⟩;rw[pA,hi,Int.toNat_natCast];exact d
theorem fZ{P:Program}{f:FuncId}{args:Array Value}{w:World}{k:Value ->World ->Prop}{kp:List PanicEntry ->World ->Prop}{R:Ending ->World ->Prop}
  (h:dO P f/\Calls P f args w R) (d:∀e w',R e w' ->B2 k kp e w'):EvCall P f args w k kp:=by
 unfold EvCall;exact⟨h.1,h.2.mono d⟩
structure Kp(X:List Nat)(w w':World):Prop where
 os:w'.os=w.os
 tape:w'.tape=w.tape
 output:w'.output=w.output
 size:w.heap.size<=w'.heap.size
 block:∀b,b<w.heap.size ->b ∉ X ->w'.heap[b]?=w.heap[b]?
theorem Kp.refl(X:List Nat)(w:World):Kp X w w:=⟨rfl,rfl,rfl,Nat.le_refl _,λ_ _ _=>rfl⟩
theorem Kp.trans{X Y:List Nat}{a b c:World}(h:Kp X a b)(k:Kp Y b c)(hs:∀x,x∈Y ->x<a.heap.size ->x∈X):Kp X a c:=
 ⟨k.os.trans h.os,k.tape.trans h.tape,k.output.trans h.output,Nat.le_trans h.size k.size,λi d f=>
  (k.block i (Nat.lt_of_lt_of_le d h.size) λg=>f (hs i g d)).trans (h.block i d f)⟩
theorem Kp.tr{X:List Nat}{a b c:World}(h:Kp X a b)(k:Kp [] b c):Kp X a c:=h.trans k (λ_ h=>by cases h)
theorem Kp.weak{X Y:List Nat}{a b:World}(h:Kp X a b)(hs:∀x,x∈X ->x<a.heap.size ->x∈Y):Kp Y a b:=
 ⟨h.os,h.tape,h.output,h.size,λi d f=>h.block i d λg=>f (hs i g d)⟩
theorem Kp.alloc(w:World)(o:Obj):Kp [] w (w.alloc o):=
 ⟨rfl,rfl,rfl,Ud,λi d _=>RowKit.Below.heap_alloc _ _ _ d⟩
theorem Kp.set(w:World)(a:Addr)(v:Value):Kp [a.block] w (w.setCell a v):=
 ⟨rfl,rfl,rfl,by simp[World.setCell],λi _ d=>RowKit.Below.heap_setCell _ _ _ _ (by simpa using d)⟩
theorem Kp.below{w w':World}(h:Kp [] w w'):RowKit.Below w.heap.size w w':=⟨h.os,h.tape,h.output,h.size,λi d=>h.block i d Ud⟩
theorem Kp.dr{X:List Nat}{w w':World}(h:Kp X w w')(m:Nat):Kp X w {w' with drawn:=m}:=⟨h.os,h.tape,h.output,h.size,h.block⟩
theorem Kp.newSt{d f g:World}{b:Nat}(h:Kp [] d f)(hb:b=d.heap.size)(i:Kp [b] f g):Kp [] d g:=
 h.trans i λx j m=>by
  have:x=b:=by simpa using j
  omega
def Cl(h:Array Obj)(b o:Nat)(v:Value):Prop:=∃c T fz,h[b]?=some (.cells c T fz)/\c[o]?=some v
theorem Cl.cell{w:World}{b o:Nat}{v:Value}(h:Cl w.heap b o v):w.cell? ⟨b,o,none⟩=some v:=by
 obtain⟨c,T,g,d,f⟩:=h;simp[World.cell?,d,f]
theorem Cl.of{w:World}{b o:Nat}{v:Value}(h:w.cell? ⟨b,o,none⟩=some v):Cl w.heap b o v:=by
 unfold World.cell? at h;split at h
 ·rename_i c T d f;exact⟨c,T,d,f,by simpa using h⟩
 ·cases h
theorem Cl.lt{h:Array Obj}{b o:Nat}{v:Value}(hc:Cl h b o v):b<h.size:=by
 obtain⟨c,T,g,f,_⟩:=hc;rcases Nat.lt_or_ge b h.size with d|d
 ·exact d
 ·simp[Array.getElem?_eq_none d]at f
theorem Cl.kp{X:List Nat}{w w':World}{b o:Nat}{v:Value}(hc:Cl w.heap b o v)(h:Kp X w w')(d:b ∉ X):Cl w'.heap b o v:=by
 have f:=hc.lt;obtain⟨c,T,g,i,j⟩:=hc;exact⟨c,T,g,by rw[h.block b f d];exact i,j⟩
def Bk(h:Array Obj)(b:Nat)(cs:List Value)(T:TypeId):Prop:=h[b]?=some (.cells cs.toArray T (0,0))
theorem Bk.cl{h:Array Obj}{b:Nat}{cs:List Value}{T:TypeId}(hb:Bk h b cs T){o:Nat}{v:Value}(d:cs[o]?=some v):Cl h b o v:=
 ⟨_,_,_,hb,by simpa using d⟩
theorem Bk.lt{h:Array Obj}{b:Nat}{cs:List Value}{T:TypeId}(hb:Bk h b cs T):b<h.size:=by
 rcases Nat.lt_or_ge b h.size with d|d
 ·exact d
 ·unfold Bk at hb;simp[Array.getElem?_eq_none d]at hb
theorem Bk.kp{X:List Nat}{w w':World}{b:Nat}{cs:List Value}{T:TypeId}(hb:Bk w.heap b cs T)(h:Kp X w w')(d:b ∉ X):Bk w'.heap b cs T:=by
 have f:=hb.lt;unfold Bk;rw[h.block b f d];exact hb
theorem fill{o:Option (List Value)}{k:List Value ->Prop}(cs:List Value)(h:o=some cs)(d:k cs):EvFill o k:=by
 unfold EvFill;exact⟨cs,h,d⟩
theorem fD{w:World}{T:TypeId}{cs:List Value}{k:Nat ->World ->Prop}(d:∀(b:Nat) (w':World),b=w.heap.size ->Bk w'.heap b cs T ->w'.heap.size=b+1 ->Kp [] w w' ->k b w'):EvNew w T cs k:=by
 unfold EvNew;refine⟨_,_,⟨rfl,rfl⟩,d _ _ rfl ?_ Ud (Kp.alloc _ _)⟩;show (w.heap.push _)[_]?=_;simp
theorem st{w:World}{b o:Nat}{v:Value}{k:World ->Prop}{cs:List Value}{T:TypeId}(hb:Bk w.heap b cs T)(f:o<cs.length)(g:v.oneCell'=true)
  (h:∀w',Bk w'.heap b (cs.set o v) T ->w'.heap.size=w.heap.size ->Kp [b] w w' ->k w'):EvSt w ⟨b,o,none⟩ v k:=by
 unfold EvSt;have d:w.heap[b]?=some (.cells cs.toArray T (0,0)):=hb;refine⟨⟨cs[o],(hb.cl (by simp[f])).cell⟩,?_,g,?_⟩
 ·simp[World.frozen?,d]
 ·refine h _ ?_ (by simp[World.setCell]) (Kp.set w ⟨b,o,none⟩ v)
  unfold Bk;simp only[World.setCell,Array.getElem?_modify,if_true,d];simp
theorem jL{w:World}{b o n:Nat}{k:Value ->Prop}(cs:List Value)(d:cs.length=n)(h:∀j v,cs[j]?=some v ->Cl w.heap b (o+j) v)(f:k (.agg cs.toArray)):EvLdN w ⟨b,o,none⟩ n k:=by
 unfold EvLdN;refine⟨cs,d,λj v g=>?_,f⟩;have:=(h j v g).cell;unfold Addr.add;split
 ·rename_i i;subst i;simpa using this
 ·exact this
theorem stN{P:Program}{w:World}{b:Nat}{vs:List Value}{k:World ->Prop}{cs:List Value}{T:TypeId}(hb:Bk w.heap b cs T)(hl:vs.length=cs.length)(W:∀v∈vs,v.oneCell'=true)
  (X:∀w',Bk w'.heap b vs T ->w'.heap.size=w.heap.size ->Kp [b] w w' ->k w'):EvRunU P (storeCells ⟨b,0,none⟩ vs) w k:=by
 have L:∀(r:List Value) (i:Nat) (h:World) (f:List Value),(∀v∈r,v.oneCell'=true) ->f.length=i ->(∃d,Bk h.heap b (f++d) T/\d.length=r.length) ->h.heap.size=w.heap.size ->Kp [b] w h ->
   ∃w',(storeCells ⟨b,0,none⟩ r i).run P h= .ok () w'/\Bk w'.heap b (f++r) T/\w'.heap.size=w.heap.size/\Kp [b] w w':=by
  intro r
  induction r with
  |nil=>
   intro i h f _ _ ⟨d,j,g⟩ m z;have:d=[]:=List.length_eq_zero_iff.1 g;subst this;exact⟨h,by simp[storeCells],j,m,z⟩
  |cons v r Y=>
   intro i h f D A ⟨d,j,g⟩ m z
   match d,g with
   |u::d,g=>
   have B:h.cell? ⟨b,i,none⟩=some u:=(j.cl (by rw[<- A];simp)).cell;have E:h.heap[b]?=some (.cells (f++u::d).toArray T (0,0)):=j;have F:=run_store P h ⟨b,i,none⟩ v .plain (D v Ud);have M:h.frozen? ⟨b,i,none⟩=false:=by simp[World.frozen?,E]
   simp only[B,M,Bool.false_eq_true,if_false]at F;have H:(⟨b,0,none⟩:Addr).add i=⟨b,i,none⟩:=by
    unfold Addr.add;split
    ·rename_i Z;subst Z;rfl
    ·simp
   have I:Bk (h.setCell ⟨b,i,none⟩ v).heap b ((f++[v])++d) T:=by
    unfold Bk;simp only[World.setCell,Array.getElem?_modify,if_true,E];subst A;simp
   obtain⟨w',N,O,Q,U⟩:=Y (i+1) (h.setCell ⟨b,i,none⟩ v) (f++[v]) (λx V=>D x (by simp[V])) (by simp[A]) ⟨d,I,by simpa using g⟩ (by simp[World.setCell,m])
    (z.trans (Kp.set h ⟨b,i,none⟩ v) (λx V _=>V))
   refine⟨w',?_,by simpa using O,Q,U⟩;simp only[storeCells,Sem.run_bind,H,F,Result.andThen_ok];exact N
 obtain⟨w',N,O,Q,U⟩:=L vs 0 w [] W rfl ⟨cs,by simpa using hb,hl.symm⟩ rfl (Kp.refl _ _);exact tY N (X w' (by simpa using O) Q U)
theorem wp_loop_ghost{P:Program}{c:Code}{Q:Exit ->Act ->World ->Prop}{a:Act}{w:World}{σ:Type}(I:σ ->Act ->World ->Prop)(μ:σ ->Nat)(x0:σ)(F:I x0 a w)
  (cd:∀x a w,I x a w ->c.wp P (Exit.then (λr w'=>∃y,I y r w'/\μ y<μ x) Q) a w):(Code.loop c).wp P Q a w:=by
 intro b k B;have D:∀n x a w,μ x=n ->I x a w ->
   ∃e r w',Q e r w'/\Arrives P (lone (b.at a (.code c:: .inLoop c::k)) B w) b k B e r w':=by
  intro n
  induction n using Nat.strongRecOn with
  |_ n H=>
   intro x a w L M;obtain⟨e,f,g,i,d⟩:=cd x a w M b (.inLoop c::k) B;cases e with
   |normal=>
    obtain⟨y,j,E⟩:=i;obtain⟨u,z,A,m,h⟩:=H (μ y) (L▸E) y f g rfl j;exact⟨u,z,A,m,.of_steps (Steps.trans d (.one step_inLoop)) h⟩
   |exit id=>exact⟨_,f,g,i,.pass (x:=.inLoop c) rfl (λ_ _=>.inl Ud) d⟩
   |goto l=>exact⟨_,f,g,i,.pass (x:=.inLoop c) rfl (λ_ _=>.inl Ud) d⟩
   |ret=>exact⟨_,f,g,i,.pass (x:=.inLoop c) rfl (λ_ _=>.inl Ud) d⟩
   |panic N=>exact⟨_,f,g,i,.pass (x:=.inLoop c) rfl (λ_ _=>.inl Ud) d⟩
   |outgrown=>exact⟨_,f,g,i,.pass (x:=.inLoop c) rfl (λ_ _=>.inl Ud) d⟩
 obtain⟨e,r,w',i,d⟩:=D _ x0 a w rfl F;exact⟨e,r,w',i,.of_steps (.one step_loop) d⟩
def Has(s:St):List (Nat×Value) ->Prop
 |[]=>True
 |p::r=>get s.e p.1=some p.2/\Has s r
theorem Has.get{s:St}:∀{l:List (Nat×Value)},Has s l ->∀t v,get l t=some v ->get s.e t=some v
 |[],_,t,v,d=>by simp[Wx.get]at d
 |(k,u)::r,h,t,v,d=>by
  simp only[Wx.get]at d;cases hb:Nat.beq k t with
  |true=>
   rw[hb]at d;have e:=Nat.eq_of_beq_eq_true hb;subst e;have:u=v:=by simpa using d
   subst this;exact h.1
  |false=>rw[hb]at d;exact Has.get h.2 t v d
theorem loop{P:Program}{τ:Tau}{n:Nat}{c:Code}{s:St}{w:World}{K:Exit ->St ->World ->Prop}(hτ:aU P τ){σ:Type}(I:σ ->List (Nat×Value))(R:σ ->World ->Prop)(μ:σ ->Nat)(x0:σ)
  (u:Has s (I x0)) (A:R x0 w)
  (cd:∀x w,R x w ->jK P τ n c ⟨I x,s.d⟩ w (tT (λs' w'=>∃y,μ y<μ x/\s'.d=s.d/\Has s' (I y)/\R y w') K)):EvCode P n (.loop c) s w K:=by
 unfold EvCode;intro a B;have f:∀g s',Fr n g s' ->s'.d=s.d ->∀y,Has s' (I y) ->Fr n g ⟨I y,s.d⟩:=λg s' d h y D=>
  ⟨d.size,by rw[d.defers,h],λt v E=>d.has t v (D.get t v E)⟩
 refine wp_loop_ghost (λy a w=>Fr n a ⟨I y,s.d⟩/\R y w) μ x0 ⟨f a s B rfl x0 u,A⟩ ?_;intro y a w ⟨i,j⟩;refine Go.wp_mono (nw hτ c _ w _ (cd y w j) a i) λe g w' F=>?_;obtain⟨s',d,hs⟩:=F;cases e with
 |normal=>
  obtain⟨z,m,h,H,r⟩:=hs;exact⟨z,⟨f g s' d h z H,r⟩,m⟩
 |exit id=>exact⟨s',d,hs⟩
 |goto l=>exact⟨s',d,hs⟩
 |ret=>exact⟨s',d,hs⟩
 |panic L=>exact⟨s',d,hs⟩
 |outgrown=>exact⟨s',d,hs⟩
@[irreducible] def EvLdQ (C:World ->Prop) (a:Addr) (k:Value ->Prop):Prop:=∃v,(∀w,C w ->w.cell? a=some v)/\k v
@[irreducible] def EvLdNQ (C:World ->Prop) (a:Addr) (n:Nat) (k:Value ->Prop):Prop:=
 ∃cs:List Value,cs.length=n/\(∀w,C w ->∀j v,cs[j]?=some v ->w.cell? (a.add j)=some v)/\k (.agg cs.toArray)
@[irreducible] def EvCallQ (P:Program) (C:World ->Prop) (f:FuncId) (args:Array Value) (k:Value ->Prop):Prop:=
 ∃v,dO P f/\(∀w,C w ->Calls P f args w λe w'=>e= .returned v/\C w')/\k v
@[irreducible] def EvRunQ (P:Program) (C:World ->Prop) (m:Sem Value) (k:Value ->Prop):Prop:=∃v,(∀w,C w ->m.run P w= .ok v w)/\k v
def xl(P:Program)(τ:Tau)(C:World ->Prop)(op:BinOp)(T:TypeId)(x y:Operand)(a b:Value)(k:Value ->Prop):Prop:=
 match a,b with
 | .int j m,.int j' n=>match mC' j j' with
  |false=>EvRunQ P C (binOp op T (.int j m) (.int j' n)) k
  |true=>match op with
   | .add=>EvInt j (m+n) k
   | .sub=>EvInt j (m-n) k
   | .mul=>EvInt j (m*n) k
   | .eql=>k (.bool (decide (m=n)))
   | .neq=>k (.bool (decide (m≠n)))
   | .lss=>k (.bool (decide (m<n)))
   | .leq=>k (.bool (decide (m<=n)))
   | .gtr=>k (.bool (decide (n<m)))
   | .geq=>k (.bool (decide (n<=m)))
   |op=>EvRunQ P C (binOp op T (.int j m) (.int j' n)) k
 | .bool m,.bool n=>match look τ.ones T with
  |some 1=>match op with
   | .eql=>k (.bool (m==n))
   | .neq=>k (.bool (m !=n))
   |_=>False
  |_=>False
 |a,b=>EvRunQ P C (do eqGuard op T x y a b;binOp op T a b) k
def q1(P:Program)(τ:Tau)(n:Nat)(C:World ->Prop)(o:Oper)(s:St)(k:St ->Prop):Prop:=
 let fin:Value ->Prop:=λv=>put n s o.dst v k
 match o.op with
 | .move x=>wv s.e x fin
 | .assign x=>wv s.e x fin
 | .pick c a b=>wv s.e c λvc=>match vc with
  | .bool t=>Br t (wv s.e a fin) (wv s.e b fin)
  |_=>False
 | .build T ps=>wvp s.e ps.toList λvs=>match look τ.tab T with
  |some (fs,z)=>match mn (qY fs) (z.map zc) vs with
   |some cs=>fin (.agg cs.toArray)
   |none=>False
  |none=>False
 | .load T x=>wv s.e x λv=>match v with
  | .pointer (some a)=>match look τ.tab T with
   |some (_,z)=>EvLdNQ C a z.length fin
   |none=>match look τ.ones T with
    |some _=>EvLdQ C a fin
    |none=>False
  |_=>False
 | .binOp op T x y _=>wv s.e x λa=>wv s.e y λb=>xl P τ C op T x y a b fin
 | .unOp op _ x=>wv s.e x λa=>match op,a with
  | .not,.bool b=>fin (.bool (!b))
  | .neg,.int j m=>EvInt j (0-m) fin
  |op,a=>EvRunQ P C (Op.unary op a) fin
 | .convert src dst x=>wv s.e x λv=>match v,look τ.ones src,look τ.ones dst with
  | .int _ m,some _,some c=>match kJ' c with
   |some j=>EvInt j m fin
   |none=>EvRunQ P C (convert src dst v) fin
  |_,_,_=>EvRunQ P C (convert src dst v) fin
 | .makeFunc fn first captured=>wvs s.e first.toList λus=>wvs s.e captured.toList λvs=>fin (.func fn us.toArray vs.toArray)
 | .slice T x lo hi mx=>wv s.e x λv=>wvo s.e lo λl=>wvo s.e hi λh=>wvo s.e mx λm=>EvRunQ P C (Instr.sliceAt T v l h m) fin
 | .fieldAddr T x f=>wv s.e x λv=>match v,look τ.tab T with
  | .pointer (some a),some (fs,_)=>match eZ fs f with
   |some (o,_,_)=>fin (.pointer (some (a.add o)))
   |none=>False
  |_,_=>False
 | .field T x f=>wv s.e x λv=>EvRunQ P C (Instr.field T v f) fin
 | .indexAddr T x i=>wv s.e x λv=>wv s.e i λj=>match v,j,look τ.slcs T with
  | .slice a len _,.int _ m,some (_,sz,_)=>EvIx a len sz m λad=>fin (.pointer (some ad))
  |_,_,_=>EvRunQ P C (Instr.indexAt T v j) fin
 | .index T x i=>wv s.e x λv=>wv s.e i λj=>EvRunQ P C (Instr.index T v j) fin
 | .lookup T x i ok=>wv s.e x λv=>wv s.e i λj=>EvRunQ P C (Instr.lookup T v j ok) fin
 | .extract x i=>wv s.e x λv=>match v with
  | .tuple vs=>match eZ vs.toList i with
   |some u=>fin u
   |none=>False
  |_=>False
 | .call c=>match c.callee with
  | .value f=>wv s.e f λg=>wvs s.e c.args.toList λvs=>match g with
   | .func (.func g) first captured=>EvCallQ P C g (first++vs.toArray++captured) fin
   |_=>False
  | .builtin b=>wvs s.e c.args.toList λvs=>match b with
   | .len=>match vs,c.argTypes.toList with
    |[.slice _ m _],[T]=>match look τ.slcs T with
     |some _=>fin (.int .i64 m)
     |none=>EvRunQ P C (Builtin.len_ c.argTypes o.type vs.toArray) fin
    |_,_=>EvRunQ P C (Builtin.len_ c.argTypes o.type vs.toArray) fin
   | .min=>EvRunQ P C (Builtin.min_ c.argTypes o.type vs.toArray) fin
   | .max=>EvRunQ P C (Builtin.max_ c.argTypes o.type vs.toArray) fin
   |_=>False
  |_=>False
 | .nilCheck x=>wv s.e x λv=>match v with
  | .pointer (some a)=>fin (.pointer (some a))
  |_=>False
 |_=>False
def wpQ(P:Program)(τ:Tau)(n:Nat)(C:World ->Prop)(all:List Oper)(k:St ->Prop)(l:List Oper):St ->Prop:=
 List.rec (motive:=λ_=>St ->Prop) (λs=>k s) (λo _ ih s=>match o.guard with
  |none=>q1 P τ n C o s ih
  |some (j,want)=>match lj all j with
   |none=>False
   |some d=>match get s.e d with
    |some (.bool c)=>match s with
     |⟨e,ds⟩=>match want with
      |true=>Br c (q1 P τ n C o ⟨(d,.bool true)::e,ds⟩ ih) (put n ⟨(d,.bool false)::e,ds⟩ o.dst undef λs'=>ih s')
      |false=>Br c (put n ⟨(d,.bool true)::e,ds⟩ o.dst undef λs'=>ih s') (q1 P τ n C o ⟨(d,.bool false)::e,ds⟩ ih)
    |some (.tuple _)=>put n s o.dst undef λs'=>ih s'
    |_=>False) l
section
variable{P:Program}{τ:Tau}{n:Nat}{o:Oper}{a:Act}{s:St}{C:World ->Prop}
def Yq(P:Program)(n:Nat)(C:World ->Prop)(o:Oper)(a:Act)(k:St ->Prop):Prop:=
 ∃v,(∀w,C w ->o.quietAt P a C w v)/\∃s',Fr n (a.put o.dst v) s'/\k s'
end
theorem Ch{P:Program}{τ:Tau}(hτ:aU P τ){T e sz bs:Nat}(hs:look τ.slcs T=some (e,sz,bs)){z:List Value}(B:τ.zero e=some z){w:World}{k:Value ->World ->Prop}{i j:Int}(l n:Nat)(hi:i=l)(D:j=n)(E:l<=n)(hsz:0<z.length)(Q:bs*n<=281474976710656)(F:n<=9223372036854775807)
  (H:∀b w',b=w.heap.size ->Bk w'.heap b (gI z n) e ->w'.heap.size=b+1 ->Kp [] w w' ->k (.slice (some ⟨b,0,none⟩) l n) w'):EvRun P (Instr.makeSlice T (.int .i64 i) (.int .i64 j)) w k:=by
 obtain⟨I,r,h,u,g⟩:=hτ.slcs T e sz bs hs;obtain⟨d,v,f,L,M,m⟩:=mq hτ B;have:d=r:=by rw[f]at h;simpa using h
 subst this;subst hi D;have N:(d.bytes:Int)*(n:Int)<=281474976710656:=by
  rw[g];have:((bs*n:Nat):Int)<=281474976710656:=Uo
  rwa [Int.natCast_mul]at this
 have A:=run_make (P:=P) w T e d v I f L .i64 .i64 l n Uo Uo N Uo;simp only[Int.toNat_natCast]at A;refine run A (H _ _ rfl ?_ Ud (Kp.alloc _ _));show (w.heap.push _)[_]?=_;have O:madeCells v.cells (n*d.size)=(gI z n).toArray:=by
  rw[M,m];exact Cf z n hsz
 rw[O];simp
theorem mk{P:Program}{τ:Tau}(hτ:aU P τ){T e sz bs:Nat}(hs:look τ.slcs T=some (e,sz,bs)){z:List Value}(f:τ.zero e=some z){w:World}{k:Value ->World ->Prop}{i:Int}(n:Nat)(hi:i=n)(hsz:0<z.length)(g:bs*n<=281474976710656)(d:n<=9223372036854775807)
  (h:∀b w',b=w.heap.size ->Bk w'.heap b (gI z n) e ->w'.heap.size=b+1 ->Kp [] w w' ->k (.slice (some ⟨b,0,none⟩) n n) w'):EvRun P (Instr.makeSlice T (.int .i64 i) (.int .i64 i)) w k:=Ch hτ hs f n n hi hi (Nat.le_refl _) hsz g d h
def Il(h:Array Obj)(b:Nat)(l:List Int)(T:TypeId):Prop:=Bk h b (l.map (Value.int .i64)) T
section
variable{P:Program}{τ:Tau}(hτ:aU P τ){T e sz bs:Nat}(hs:look τ.slcs T=some (e,sz,bs)){w:World}{k:Value ->World ->Prop}{a:Option Addr}{len cap:Nat}
include hτ hs
theorem jg':P.underlying T=some (.slice (P.elem T))/\∀w,(sizeOf (P.elem T)).run P w= .ok sz w:=by
 obtain⟨f,i,g,d,_⟩:=hτ.slcs T e sz bs hs;have h:P.elem T=e:=by simp[Program.elem,f]
 rw[h];exact⟨f,λw=>by simp[sizeOf,typeInfo,g,d]⟩
theorem xm{j:IntKind}{i:Int}(l:Nat)(hi:i=l)(hl:l<=len)(f:k (sliced a l len cap sz) w):EvRun P (Instr.sliceAt T (.slice a len cap) (some (.int j i)) none none) w k:=by
 obtain⟨d,g⟩:=jg' hτ hs;subst hi;refine run ?_ f;rw[run_sliceAt_slice w T _ _ _ _ d,run_slice_l w T a len cap d j l Uo Uo,g];simp
theorem rb{j:IntKind}{i:Int}(h:Nat)(hi:i=h)(hl:h<=cap)(f:k (sliced a 0 h cap sz) w):EvRun P (Instr.sliceAt T (.slice a len cap) none (some (.int j i)) none) w k:=by
 obtain⟨d,g⟩:=jg' hτ hs;subst hi;refine run ?_ f;rw[run_sliceAt_slice w T _ _ _ _ d,run_slice_h w T a len cap d j h Uo Uo,g];simp
theorem In{j f:IntKind}{i i':Int}(l h:Nat)(hi:i=l)(d:i'=h)(h1:l<=h)(h2:h<=cap)(m:k (sliced a l h cap sz) w):EvRun P (Instr.sliceAt T (.slice a len cap) (some (.int j i)) (some (.int f i')) none) w k:=by
 obtain⟨g,r⟩:=jg' hτ hs;subst hi d;refine run ?_ m;rw[run_sliceAt_slice w T _ _ _ _ g,run_slice_lh w T a len cap g j f l h Uo Uo Uo,r];simp
end
theorem i6{r:Int}{k:Value ->Prop}(d:k (.int .i64 r))(h1:-9223372036854775808<=r:=by first|omega|(simp only;omega))(h2:r<=9223372036854775807:=by first|omega|(simp only;omega)):EvInt .i64 r k:=Ik h1 h2 d
theorem xU{X:List Nat}{w w':World}{Y:List Nat}(h:∀b∈X,b<w.heap.size)(k:Kp Y w w'):∀b∈X,b<w'.heap.size:=λb d=>Nat.lt_of_lt_of_le (h b d) k.size
theorem bZ{w:World}{b T:Nat}{cs:List Value}(h:Bk w.heap b cs T):∀j v,cs[j]?=some v ->Cl w.heap b (0+j) v:=λj v d=>by rw[Nat.zero_add];exact h.cl d
theorem lb{w:World}{b o T:Nat}{cs:List Value}{v:Value}{k:Value ->Prop}(h:Bk w.heap b cs T)(d:k v)(f:cs[o]?=some v:=by rfl):EvLd w ⟨b,o,none⟩ k:=ld (Cl.cell (h.cl f)) d
theorem oF {P : Program} {f : FuncId} {fn : Func} {args : Array Value} {w : World} {R : Ending -> World -> Prop} (d : P.funcs[f]? = some fn) (h : Calls P f args w R) (h1 : fn.body.isNone = false := by rfl) (h2 : (fn.name == "runtime.NumGoroutine") = false := by decide) : dO P f /\ Calls P f args w R := ⟨⟨fn, d, h1, h2⟩, h⟩
theorem cO{P:Program}{τ:Tau}{f:FuncId}{fn:Func}{c:Code}{args:List Value}{w:World}{R:Ending ->World ->Prop}(n:Nat)(rs:List ResultVar)(hτ:aU P τ)
 (i:P.funcs[f]?=some fn) (h:jK P τ n c ⟨ini args 0,[]⟩ w (jp P rs R)) (hb:fn.body=some c:=by rfl) (j:fn.ntmps=n:=by rfl) (d:fn.results.toList=rs:=by rfl) (g:args.length<=n:=by exact Nat.le_of_ble_eq_true rfl):Calls P f args.toArray w R:=Ij n rs hτ i hb j d g h
def Hc':Op ->Bool
 | .move .. | .assign .. | .load .. | .fieldAddr .. | .indexAddr .. | .binOp .. | .unOp .. | .convert .. | .extract .. | .build .. | .pick .. | .field .. | .slice .. =>true
 |_=>false
def xn(n:Nat)(K:Exit ->St ->World ->Prop):Exit ->Act ->World ->Prop:=λe a w=>e= .normal/\lift n K .normal a w
@[irreducible] def EvAny (P:Program) (n:Nat) (S:World ->Prop) (l:List Oper) (K:Exit ->St ->World ->Prop) (fuel:Nat) (listed:Array Bool) (s:St) (w:World):Prop:=
 ∀a,Fr n a s ->wpAnyH P .any l.toArray (xn n K) S fuel listed a w
theorem re{w w':World}{row:Option Nat}(h:w.grownBy w' row):Kp row.toList w w':=
 ⟨h.os,h.tape,h.output,h.size,λb d f=>h.block b d (λe=>f (by simp[<- e]))⟩
theorem pB{w:World}{base e sz n:Nat}{v:Value}{xs:List Value}(h:w.ownsRow base e sz v n xs):
  ∃a cap,v= .slice a n cap/\xs.length=n*sz/\n<=cap/\(n=0 \/∃g,a=some ⟨g,0,none⟩/\base<=g/\g<w.heap.size/\∀j u,xs[j]?=some u ->Cl w.heap g j u):=by
 obtain⟨i,r⟩:=h;rcases r with ⟨rfl,rfl⟩|⟨g,cap,f,rfl,z,m,A,D,E,B⟩
 ·exact⟨none,0,rfl,i,Nat.le_refl _,.inl rfl⟩
 ·refine⟨_,cap,rfl,i,A,.inr ⟨g,rfl,z,(Array.getElem?_eq_some_iff.1 m).1,λj u d=>⟨f,e,_,m,?_⟩⟩⟩
  rw[<- B,List.getElem?_take]at d;split at d
  ·simpa using d
  ·cases d
theorem Ci{w:World}{b base e sz n:Nat}{cs:List Value}(h:Bk w.heap b cs e)(hb:base<=b)(hc:cs.length=n*sz)(hm:n<=maxLen):w.ownsRow base e sz (.slice (some ⟨b,0,none⟩) n n) n cs:=
 ⟨hc,.inr ⟨b,n,cs.toArray,rfl,hb,h,Nat.le_refl _,hm,by simpa using hc,by rw[<- hc];simp⟩⟩
theorem Cj{w w':World}{base e sz n:Nat}{v:Value}{xs:List Value}{X:List Nat}(h:w.ownsRow base e sz v n xs)(m:Kp X w w')(r:∀g,v.ownBlock=some g ->g ∉ X):w'.ownsRow base e sz v n xs:=by
 obtain⟨u,f⟩:=h;refine⟨u,?_⟩;rcases f with f|⟨g,cap,i,rfl,z,j,d⟩
 ·exact .inl f
 ·refine .inr ⟨g,cap,i,rfl,z,?_,d⟩
  rw[m.block g (Array.getElem?_eq_some_iff.1 j).1 (r g rfl)];exact j
theorem xo{P:Program}{w:World}{base size:Nat}(t ty e:TypeId)(i:TypeInfo)(h:P.underlying t=some (.slice e))(hi:P.info? e=some i)
  (v:Value) (n:Nat) (xs:List Value) (d:w.ownsRow base e size v n xs) (c:Nat):(Builtin.append_ #[t,t] ty #[v,.slice none 0 c]).run P w= .ok v w:=by
 rcases d.2 with ⟨rfl,rfl⟩|⟨g,cap,j,rfl,_,_,f,_⟩
 ·simp[Builtin.append_,run_underlying h,sizeOf,typeInfo,hi,Builtin.lenOf,Builtin.firstCells]
 ·simp[Builtin.append_,run_underlying h,sizeOf,typeInfo,hi,Builtin.lenOf,Builtin.firstCells,f,storeCells]
theorem ap{P:Program}{τ:Tau}(hτ:aU P τ){T e sz bs:Nat}(hs:look τ.slcs T=some (e,sz,bs)){z:List Value}(Y:τ.zero e=some z)(hsz:0<sz){w:World}{k:Value ->World ->Prop}{v:Value}{n m c ty:Nat}{xs:List Value}{a:Option Addr}
  (base:Nat) (g:w.ownsRow base e sz v n xs) (d:List Value) (hl:d.length=m*sz) (A:m=0 \/∃b o,a=some ⟨b,o,none⟩/\∀j u,d[j]?=some u ->Cl w.heap b (o+j) u)
  (h1:∀u∈d,u.oneCell'=true) (r:(n+m)*bs<=140737488355328) (I:n+m<=maxLen) (B:base<=w.heap.size)
  (U:∀H w',w'.ownsRow base e sz H (n+m) (xs++d) ->Kp v.ownBlock.toList w w' ->k H w'):EvRun P (Builtin.append_ #[T,T] ty #[v,.slice a m c]) w k:=by
 obtain⟨V,L,f,h,M⟩:=hτ.slcs T e sz bs hs;obtain⟨i,W,D,Z,hc,F⟩:=mq hτ Y;have:i=L:=by rw[D]at f;simpa using f
 subst this;have N:W.cells.size=sz:=by rw[hc,<- h,F];simp
 have X:∀E,a=some E ->(∀j u,d[j]?=some u ->w.cell? (E.add j)=some u) ->EvRun P (Builtin.append_ #[T,T] ty #[v,.slice a m c]) w k:=λE ha O=>by
  subst ha;obtain⟨H,w',hr,ho,hg,_⟩:=run_append_own (P:=P) w base T ty e i W sz bs V f Z h M N hsz v n xs g E m c d hl O h1 I r B;exact run hr (U H w' ho (re hg))
 rcases A with rfl|⟨b,o,rfl,O⟩
 ·have Q:d=[]:=List.eq_nil_of_length_eq_zero (by simpa using hl)
  subst Q;cases a with
  |some E=>exact X E rfl Ud
  |none=>
   refine run (xo T ty e i V f v n xs g c) (U v w (by simpa using g) (Kp.refl _ _))
 ·refine X _ rfl λj u hj=>?_
  rw[show (⟨b,o,none⟩:Addr).add j=⟨b,o+j,none⟩ by unfold Addr.add;split<;>simp_all];exact(O j u hj).cell
def I64(n:Int):Prop:=-9223372036854775808<=n/\n<=9223372036854775807
abbrev Mem:=Nat ->Nat ->Value ->Prop
def Sub(C:Mem)(w:World):Prop:=∀b o v,C b o v ->Cl w.heap b o v
theorem Sub.tr{C:Mem}{w w':World}(h:Sub C w)(k:Kp [] w w'):Sub C w':=λb o v d=>(h b o v d).kp k Ud
theorem Sub.kp{C:Mem}{X:List Nat}{w w':World}(h:Sub C w)(k:Kp X w w')(f:∀b o v,C b o v ->b ∉ X):Sub C w':=λb o v d=>(h b o v d).kp k (f b o v d)
def Old(w:World):Mem:=λb o v=>Cl w.heap b o v
theorem Old.sub(w:World):Sub (Old w) w:=λ_ _ _ h=>h
def Cu(h:Array Obj)(b o:Nat)(v:Value):Prop:=∃c T,h[b]?=some (.cells c T (0,0))/\c[o]?=some v
theorem Cu.cl{h:Array Obj}{b o:Nat}{v:Value}(hc:Cu h b o v):Cl h b o v:=by
 obtain⟨c,T,d,f⟩:=hc;exact⟨c,T,_,d,f⟩
theorem Cu.lt{h:Array Obj}{b o:Nat}{v:Value}(hc:Cu h b o v):b<h.size:=hc.cl.lt
theorem Cu.kp{X:List Nat}{w w':World}{b o:Nat}{v:Value}(hc:Cu w.heap b o v)(k:Kp X w w')(d:b ∉ X):Cu w'.heap b o v:=by
 have f:=hc.lt;obtain⟨c,T,g,h⟩:=hc;exact⟨c,T,by rw[k.block b f d];exact g,h⟩
theorem Bk.cu{h:Array Obj}{b:Nat}{cs:List Value}{T:TypeId}(hb:Bk h b cs T){o:Nat}{v:Value}(d:cs[o]?=some v):Cu h b o v:=⟨_,_,hb,by simpa using d⟩
def New(n:Nat)(w:World):Mem:=λb o v=>n<=b/\Cu w.heap b o v
theorem New.up{n m:Nat}{w w':World}(d:m<=n)(k:Kp [] w w'):∀b o v,New n w b o v ->New m w' b o v:=λb o v h=>⟨Nat.le_trans d h.1,h.2.kp k Ud⟩
structure Rd(α:Type) where
 sz:Nat
 den:Mem ->List Value ->α ->Prop
 len:∀{C cs x},den C cs x ->cs.length=sz
 mono:∀{C C':Mem} {cs x},(∀b o v,C b o v ->C' b o v) ->den C cs x ->den C' cs x
 one:∀{C cs x},den C cs x ->∀u∈cs,u.oneCell'=true
section
variable{α:Type}
def Rd.At(R:Rd α)(C:Mem)(b o:Nat)(x:α):Prop:=∃cs,R.den C cs x/\∀j v,cs[j]?=some v ->C b (o+j) v
theorem Rd.At.mono{R:Rd α}{C C':Mem}{b o:Nat}{x:α}(h:R.At C b o x)(hc:∀b o v,C b o v ->C' b o v):R.At C' b o x:=by
 obtain⟨d,f,g⟩:=h;exact⟨d,R.mono hc f,λj v i=>hc _ _ _ (g j v i)⟩
def Sl(R:Rd α)(C:Mem)(a:Option Addr)(l:List α):Prop:=
 l.length<=1099511627776/\(l.length=0 \/∃b o,a=some ⟨b,o,none⟩/\∀i x,l[i]?=some x ->R.At C b (o+i*R.sz) x)
theorem Sl.mono{R:Rd α}{C C':Mem}{a:Option Addr}{l:List α}(h:Sl R C a l)(hc:∀b o v,C b o v ->C' b o v):Sl R C' a l:=by
 refine⟨h.1,?_⟩;rcases h.2 with d|⟨b,o,f,g⟩
 ·exact .inl d
 ·exact .inr ⟨b,o,f,λi x j=>(g i x j).mono hc⟩
theorem Sl.nil(R:Rd α)(C:Mem)(a:Option Addr):Sl R C a []:=⟨Ud,.inl rfl⟩
theorem Sl.at{R:Rd α}{C:Mem}{a:Option Addr}{l:List α}(h:Sl R C a l){i:Nat}(hi:i<l.length):∃b o,a=some ⟨b,o,none⟩/\∀i x,l[i]?=some x ->R.At C b (o+i*R.sz) x:=by
 rcases h.2 with f|d
 ·omega
 ·exact d
def tZ(R:Rd α):Rd (List α) where
 sz:=1
 den C cs l:=∃a cap,cs=[.slice a l.length cap]/\Sl R C a l
 len:=by rintro C cs x ⟨a,cap,rfl,_⟩;rfl
 mono:=by rintro C C' cs x hc ⟨a,cap,rfl,h⟩;exact⟨a,cap,rfl,h.mono hc⟩
 one:=by rintro C cs x ⟨a,cap,rfl,h⟩ u hu;simp at hu;subst hu;rfl
end
def wG':Rd Int where
 sz:=1
 den _ cs x:=cs=[.int .i64 x]/\I64 x
 len:=by rintro _ cs x ⟨rfl,_⟩;rfl
 mono:=by rintro _ _ cs x _ h;exact h
 one:=by rintro _ cs x ⟨rfl,_⟩ u hu;simp at hu;subst hu;rfl
def rBool:Rd Bool where
 sz:=1
 den _ cs x:=cs=[.bool x]
 len:=by rintro _ cs x rfl;rfl
 mono:=by rintro _ _ cs x _ h;exact h
 one:=by rintro _ cs x rfl u hu;simp at hu;subst hu;rfl
def rU8:Rd Nat where
 sz:=1
 den _ cs x:=cs=[.int .u8 (x:Int)]/\x<256
 len:=by rintro _ cs x ⟨rfl,_⟩;rfl
 mono:=by rintro _ _ cs x _ h;exact h
 one:=by rintro _ cs x ⟨rfl,_⟩ u hu;simp at hu;subst hu;rfl
theorem Sl.sl{α:Type}{R:Rd α}{C:Mem}{a:Option Addr}{l:List (List α)}(h:Sl (tZ R) C a l){i:Nat}{x:List α}(hi:l[i]?=some x):
  ∃b o,a=some ⟨b,o,none⟩/\∃d cap,C b (o+i*1) (.slice d x.length cap)/\Sl R C d x:=by
 obtain⟨b,o,f,g⟩:=h.at (List.getElem?_eq_some_iff.1 hi).1;obtain⟨m,⟨d,cap,rfl,hs⟩,j⟩:=g i x hi;exact⟨b,o,f,d,cap,j 0 _ rfl,hs⟩
theorem Ck{C:Mem}{w:World}(hs:Sub C w){b o:Nat}{v:Value}{k:Value ->Prop}(h:C b o v)(d:k v):EvLd w ⟨b,o,none⟩ k:=ld (hs b o v h).cell d
def All2{α β:Type}(p:β ->α ->Prop):List β ->List α ->Prop
 |[],[]=>True
 |b::bs,a::aes=>p b a/\All2 p bs aes
 |_,_=>False
section
variable{α β:Type}{p q:β ->α ->Prop}
theorem All2.length:∀{l:List β} {m:List α},All2 p l m ->l.length=m.length
 |[],[],_=>rfl
 |_::_,_::_,h=>by simp[All2.length h.2]
 |[],_::_,h=>h.elim
 |_::_,[],h=>h.elim
theorem All2.mono(d:∀b a,p b a ->q b a):∀{l:List β} {m:List α},All2 p l m ->All2 q l m
 |[],[],_=>trivial
 |_::_,_::_,h=>⟨d _ _ h.1,All2.mono d h.2⟩
 |[],_::_,h=>h.elim
 |_::_,[],h=>h.elim
theorem All2.append:∀{l:List β} {m:List α} {f:List β} {m':List α},All2 p l m ->All2 p f m' ->All2 p (l++f) (m++m')
 |[],[],_,_,_,d=>d
 |_::_,_::_,_,_,h,d=>⟨h.1,All2.append h.2 d⟩
 |[],_::_,_,_,h,_=>h.elim
 |_::_,[],_,_,h,_=>h.elim
theorem All2.get:∀{l:List β} {m:List α} {i:Nat} {a:α},All2 p l m ->m[i]?=some a ->∃b,l[i]?=some b/\p b a
 |[],[],i,a,_,h=>by simp at h
 |b::_,_::_,0,a,h,hi=>by simp at hi;subst hi;exact⟨b,rfl,h.1⟩
 |_::_,_::_,i+1,a,h,hi=>by simpa using All2.get h.2 (by simpa using hi)
 |[],_::_,_,_,h,_=>h.elim
 |_::_,[],_,_,h,_=>h.elim
end
theorem pC{α:Type}{k:Nat}:∀(css:List (List α)),(∀cs∈css,cs.length=k) ->css.flatten.length=css.length*k
 |[],_=>Ud
 |cs::r,h=>by
  have:=pC r λc d=>h c (by simp[d]);simp only[List.flatten_cons,List.length_append,List.length_cons,this,h cs Ud,Nat.add_mul];omega
theorem pD{α:Type}{k:Nat}:∀(css:List (List α)),(∀cs∈css,cs.length=k) ->∀(i j:Nat) (cs:List α) (v:α),css[i]?=some cs ->cs[j]?=some v ->css.flatten[i*k+j]?=some v
 |[],_,i,j,cs,v,h1,_=>by simp at h1
 |c::r,h,0,j,cs,v,h1,h2=>by
  simp at h1;subst h1;have f:=(List.getElem?_eq_some_iff.1 h2).1;rw[List.flatten_cons,Nat.zero_mul,Nat.zero_add,List.getElem?_append_left f];exact h2
 |c::r,h,i+1,j,cs,v,h1,h2=>by
  have d:=h c Ud;have:=pD r (λc d=>h c (by simp[d])) i j cs v (by simpa using h1) h2;rw[List.flatten_cons,List.getElem?_append_right (by rw[d,Nat.add_mul];omega)];rw[show (i+1)*k+j-c.length=i*k+j by rw[d,Nat.add_mul];omega];exact this
def Dn(lo:Nat)(v:Value)(w:World):Mem:=λb o u=>lo<=b/\some b≠v.ownBlock/\Cu w.heap b o u
structure Own{α:Type}(R:Rd α)(e lo:Nat)(w:World)(v:Value)(l:List α):Prop where
 row:∃css:List (List Value),w.ownsRow lo e R.sz v l.length css.flatten/\All2 (R.den (Dn lo v w)) css l
 low:lo<=w.heap.size
section
variable{α:Type}{R:Rd α}{e lo:Nat}{w w':World}{v:Value}{l:List α}
theorem Own.nil(R:Rd α)(e:Nat){lo:Nat}{w:World}(h:lo<=w.heap.size):Own R e lo w (.slice none 0 0) []:=⟨⟨[],⟨Ud,.inl ⟨rfl,rfl⟩⟩,trivial⟩,h⟩
theorem Own.empty(R:Rd α){e lo:Nat}{w:World}{b:Nat}(hb:Bk w.heap b [] e)(h:lo<=b):Own R e lo w (.slice (some ⟨b,0,none⟩) 0 0) []:=
 ⟨⟨[],Ci (n:=0) hb h Ud (by simp[maxLen]),trivial⟩,Nat.le_trans h (Nat.le_of_lt hb.lt)⟩
theorem Own.block(h:Own R e lo w v l):∀g,v.ownBlock=some g ->lo<=g/\g<w.heap.size:=by
 intro g d;obtain⟨f,i,_⟩:=h.row;rcases i.2 with ⟨rfl,_⟩|⟨u,cap,j,rfl,m,r,_⟩
 ·cases d
 ·simp[Value.ownBlock]at d
  subst d;exact⟨m,(Array.getElem?_eq_some_iff.1 r).1⟩
theorem Own.kp(h:Own R e lo w v l)(k:Kp [] w w'):Own R e lo w' v l:=by
 obtain⟨⟨d,g,i⟩,j⟩:=h;exact⟨⟨d,Cj g k Ud,i.mono λr x m=>R.mono (λb o u f=>⟨f.1,f.2.1,f.2.2.kp k Ud⟩) m⟩,Nat.le_trans j k.size⟩
theorem Kp.own{w0:World}(k0:Kp [] w0 w)(k:Kp v.ownBlock.toList w w')(h:Own R e w0.heap.size w v l):Kp [] w0 w':=
 k0.trans k λx d f=>by
  have d:v.ownBlock=some x:=by simpa using d
  have:=(h.block x d).1;omega
theorem Own.den(h:Own R e lo w v l)(hl:l.length<=1099511627776):∃a cap,v= .slice a l.length cap/\Sl R (New lo w) a l:=by
 obtain⟨⟨d,H,z⟩,W⟩:=h;have E:=z.length;have I:∀f∈d,f.length=R.sz:=by
  intro f A;obtain⟨i,F⟩:=List.getElem?_of_mem A;have L:=(List.getElem?_eq_some_iff.1 F).1;obtain⟨M,m,B⟩:=z.get (i:=i) (a:=l[i]' Uo) Ud;rw[F]at m;obtain rfl:=Option.some.inj m;exact R.len B
 rcases H.2 with ⟨rfl,N⟩|⟨g,cap,D,rfl,O,Q,X,Y,Z,U⟩
 ·have:l=[]:=List.length_eq_zero_iff.1 N
  subst this;exact⟨none,0,rfl,Sl.nil _ _ _⟩
 ·refine⟨_,cap,rfl,hl,.inr ⟨g,0,rfl,λi x V=>?_⟩⟩
  obtain⟨f,m,B⟩:=z.get V;refine⟨f,R.mono (λb o u r=>⟨r.1,r.2.2⟩) B,λj u r=>⟨O,D,e,Q,?_⟩⟩;have:=pD d I i j f u m r;rw[<- U,List.getElem?_take]at this;split at this
  ·rw[Nat.zero_add];simpa using this
  ·cases this
theorem Own.ap{P:Program}{τ:Tau}(hτ:aU P τ){T bs:Nat}(hs:look τ.slcs T=some (e,R.sz,bs)){z:List Value}(hz:τ.zero e=some z)(hsz:0<R.sz){k:Value ->World ->Prop}{m c ty:Nat}{a:Option Addr}
  (h:Own R e lo w v l) (xs:List α) (css:List (List Value)) (hm:xs.length=m) (E:All2 (R.den (Dn lo v w)) css xs) (hc:m=0 \/∃b o,a=some ⟨b,o,none⟩/\∀i x j u,css[i]?=some x ->x[j]?=some u ->Cl w.heap b (o+i*R.sz+j) u)
  (D:(l.length+m)*bs<=140737488355328) (a2:l.length+m<=maxLen)
  (hk:∀H w',Own R e lo w' H (l++xs) ->Kp v.ownBlock.toList w w' ->(H.ownBlock=v.ownBlock \/H.ownBlock=some w.heap.size) ->k H w'):EvRun P (Builtin.append_ #[T,T] ty #[v,.slice a m c]) w k:=by
 have W:=h;obtain⟨⟨g,h1,h2⟩,r⟩:=h;obtain⟨f,a3,d,A,a4⟩:=hτ.slcs T e R.sz bs hs;obtain⟨B,v0,I,hv,a5,X⟩:=mq hτ hz;have:B=a3:=by rw[I]at d;simpa using d
 subst this;have a6:v0.cells.size=R.sz:=by rw[a5,<- A,X];simp
 have Y:=E.length;have L:∀Z∈css,Z.length=R.sz:=by
  intro Z M;obtain⟨i,Q⟩:=List.getElem?_of_mem M;have a7:=(List.getElem?_eq_some_iff.1 Q).1;obtain⟨a8,h4,U⟩:=E.get (i:=i) (a:=xs[i]' Uo) Ud;rw[Q]at h4;obtain rfl:=Option.some.inj h4;exact R.len U
 have a0:∀u∈css.flatten,u.oneCell'=true:=by
  intro u f;obtain⟨Z,M,f⟩:=List.mem_flatten.1 f;obtain⟨i,Q⟩:=List.getElem?_of_mem M;have a7:=(List.getElem?_eq_some_iff.1 Q).1;obtain⟨a8,h4,U⟩:=E.get (i:=i) (a:=xs[i]' Uo) Ud;rw[Q]at h4;obtain rfl:=Option.some.inj h4;exact R.one U u f
 have N:css.flatten.length=m*R.sz:=by rw[pC css L,Y,hm]
 have go:∀V,a=some V ->(∀j u,css.flatten[j]?=some u ->w.cell? (V.add j)=some u) ->EvRun P (Builtin.append_ #[T,T] ty #[v,.slice a m c]) w k:=λV ha hn=>by
  subst ha;obtain⟨H,w',hr,ho,hg,_,F⟩:=run_append_own_at (P:=P) w lo T ty e B v0 R.sz bs f d hv A a4 a6 hsz v l.length g.flatten h1 V m c css.flatten N hn a0 a2 D r;have O:=re hg;refine run hr (hk H w' ⟨⟨g++css,?_,?_⟩,Nat.le_trans r O.size⟩ O F)
  ·rw[List.flatten_append,List.length_append,hm]
   exact ho
  ·have step:∀b o u,Dn lo v w b o u ->Dn lo H w' b o u:=λb o u f=>by
    refine⟨f.1,?_,f.2.2.kp O (by simpa using λe=>f.2.1 e.symm)⟩;rcases F with e1|e1
    ·rw[e1];exact f.2.1
    ·rw[e1]
     have:=f.2.2.lt;intro e2;have:=Option.some.inj e2;omega
   exact(h2.mono λZ x E=>R.mono step E).append (E.mono λZ x E=>R.mono step E)
 rcases hc with h0|⟨b,o,rfl,hn⟩
 ·subst h0
  have a9:css.flatten=[]:=List.eq_nil_of_length_eq_zero (by simpa using N);cases a with
  |some V=>exact go V rfl (by simp[a9])
  |none=>
   have a':xs=[]:=List.length_eq_zero_iff.1 hm;refine run (xo T ty e B f d v l.length g.flatten h1 c) (hk v w ?_ ((Kp.refl [] w).weak Ud) (.inl rfl));subst a'
   simpa using W
 ·refine go _ rfl λj u hj=>?_
  have b0:j<m*R.sz:=by rw[<- N];exact(List.getElem?_eq_some_iff.1 hj).1
  have Q:j/R.sz<css.length:=by rw[Y,hm];exact(Nat.div_lt_iff_lt_mul hsz).2 b0
  have hr:j%R.sz<R.sz:=Nat.mod_lt _ hsz;have b1:=L css[j/R.sz] Ud;have U:=pD css L (j/R.sz) (j%R.sz) css[j/R.sz] (css[j/R.sz][j%R.sz]' Uo) Ud Ud;have a1:=Nat.div_add_mod' j R.sz;rw[a1,hj]at U;have h6:=hn (j/R.sz) css[j/R.sz] (j%R.sz) u Ud (by rw[U];simp);rw[show (⟨b,o,none⟩:Addr).add j=⟨b,o+j,none⟩ by unfold Addr.add;split<;>simp_all];rw[Nat.add_assoc,a1]at h6;exact h6.cell
theorem Own.ap1{P:Program}{τ:Tau}(hτ:aU P τ){T bs:Nat}(hs:look τ.slcs T=some (e,R.sz,bs)){z:List Value}(r:τ.zero e=some z)(hsz:0<R.sz){k:Value ->World ->Prop}{c ty b o:Nat}
  (h:Own R e lo w v l) (x:α) (cs:List Value) (A:R.den (Dn lo v w) cs x) (hc:∀j u,cs[j]?=some u ->Cl w.heap b (o+j) u)
  (d:(l.length+1)*bs<=140737488355328) (g:l.length+1<=maxLen)
  (B:∀f w',Own R e lo w' f (l++[x]) ->Kp v.ownBlock.toList w w' ->(f.ownBlock=v.ownBlock \/f.ownBlock=some w.heap.size) ->k f w'):EvRun P (Builtin.append_ #[T,T] ty #[v,.slice (some ⟨b,o,none⟩) 1 c]) w k:=
 h.ap hτ hs r hsz [x] [cs] rfl ⟨A,trivial⟩ (.inr ⟨b,o,rfl,λi y j u m D=>by
  match i with
  |0=>
   simp at m;subst m;rw[Nat.zero_mul,Nat.add_zero];exact hc j u D
  |i+1=>simp at m⟩) d g B
end
theorem gE{α:Type}{l:List α}{i:Nat}(h:i<l.length:=by omega):l[i]?=some l[i]:=List.getElem?_eq_getElem h
theorem az{α:Type}{l:List α}{k:Nat}(h:k<l.length:=by omega):∃x,l[k]?=some x/\l.drop k=x::l.drop (k+1):=
 ⟨l[k],Ud,List.drop_eq_getElem_cons h⟩
theorem dP{α:Type}{l:List α}{k:Nat}{x:α}(h:l[k]?=some x):l.take (k+1)=l.take k++[x]:=by
 rw[List.take_add_one,h]
 rfl
theorem aL{α:Type}{l:List α}{k:Nat}{x:α}(h:l[k]?=some x):k<l.length:=(List.getElem?_eq_some_iff.1 h).1
def He':Array Bool ->List Nat ->Array Bool
 |a,[]=>a
 |a,i::r=>He' (a.setIfInBounds i true) r
def Io(l:Array Oper):Array Bool ->List Nat ->Bool
 |_,[]=>true
 |listed,i::r=>Region.free .any l listed i && ((Region.ready .any l listed).contains i && Io l (listed.setIfInBounds i true) r)
def picks(l:Array Oper):List Nat ->List Oper ->Prop
 |[],[]=>True
 |i::r,o::os=>l[i]?=some o/\plainOp' o.op=true/\picks l r os
 |_,_=>False
where
 plainOp':Op ->Bool
 | .move .. | .assign .. | .load .. | .fieldAddr .. | .indexAddr .. | .binOp .. | .unOp .. | .convert .. | .extract .. | .build .. | .pick .. | .field .. | .slice .. | .nilCheck .. =>true
 | .call c=>match c.callee with
  | .builtin .len=>true
  | .builtin .min=>true
  | .builtin .max=>true
  |_=>false
 |_=>false
section
variable{P:Program}{τ:Tau}{n:Nat}{S:World ->Prop}{l:List Oper}{K:Exit ->St ->World ->Prop}{s:St}{w:World}
def Cm(l:List Oper)(is:List Nat):List Oper:=
 List.rec (motive:=λ_=>List Oper) [] (λi _ ih=>match eZ l i with
  |some o=>o::ih
  |none=>ih) is
def xp(l:List Oper)(is:List Nat):Bool:=
 List.rec (motive:=λ_=>Bool) true (λi _ ih=>match eZ l i with
  |some o=>picks.plainOp' o.op && ih
  |none=>false) is
end
section
variable{P:Program}{w:World}{k:Value ->World ->Prop}{kq:Value ->Prop}{C:World ->Prop}{ts:Array TypeId}{t:TypeId}{x y:Int}
theorem Ip(w:World):(Builtin.max_ ts t #[.int .i64 x,.int .i64 y]).run P w= .ok (.int .i64 (max x y)) w:=by
 rw[run_max_int2]
 congr 2
 split<;>omega
theorem Iq(w:World):(Builtin.min_ ts t #[.int .i64 x,.int .i64 y]).run P w= .ok (.int .i64 (min x y)) w:=by
 rw[run_min_int2]
 congr 2
 split<;>omega
theorem Ir(d:0<=x)(f:x<=9223372036854775807)(h:0<y)(w:World):(binOp .quo t (.int .i64 x) (.int .i64 y)).run P w= .ok (.int .i64 (x/y)) w:=by
 have i:0<=x/y:=Int.ediv_nonneg d Uo;have j:x/y<=x:=Int.ediv_le_self y d;have g:=IntWalk.i64_in (x/y) Uo;simp[binOp_quo,Op.intDiv,Int.tdiv_eq_ediv_of_nonneg d,g,show ¬ y=0 by omega]
theorem Is(d:0<=x)(f:0<y)(w:World):(binOp .rem t (.int .i64 x) (.int .i64 y)).run P w= .ok (.int .i64 (x%y)) w:=by
 simp[binOp_rem,Op.intDiv,Int.tmod_eq_emod_of_nonneg d,show ¬ y=0 by omega]
theorem It(f:0<=x)(d:x<=9223372036854775807)(g:0<y)(h:k (.int .i64 (x/y)) w):EvRun P (binOp .quo t (.int .i64 x) (.int .i64 y)) w k:=run (Ir f d g w) h
theorem Iu(d:0<=x)(f:0<y)(h:k (.int .i64 (x%y)) w):EvRun P (binOp .rem t (.int .i64 x) (.int .i64 y)) w k:=run (Is d f w) h
end
section
variable{P:Program}{τ:Tau}{n:Nat}{a b c:Code}{s:St}{w:World}{K:Exit ->St ->World ->Prop}
theorem Iv(hτ:aU P τ)(h:jK P τ n c s w K):EvCode P n c s w K:=by
 unfold EvCode;exact λa d=>nw hτ c s w K h a d
theorem Iw{σ:Type}(I:σ ->List (Nat×Value))(R:σ ->World ->Prop)(μ:σ ->Nat)(x0:σ)
  (f:s.d=[]) (A:Has s (I x0)) (B:R x0 w)
  (cd:∀x w,R x w ->EvCode P n c ⟨I x,[]⟩ w (tT (λs' w'=>∃y,μ y<μ x/\s'.d=[]/\Has s' (I y)/\R y w') K)):EvCode P n (.loop c) s w K:=by
 unfold EvCode;intro a D;have g:∀h s',Fr n h s' ->s'.d=[] ->∀y,Has s' (I y) ->Fr n h ⟨I y,[]⟩:=λh s' d f y E=>
  ⟨d.size,by rw[d.defers,f],λt v F=>d.has t v (E.get t v F)⟩
 refine wp_loop_ghost (λy a w=>Fr n a ⟨I y,[]⟩/\R y w) μ x0 ⟨g a s D f x0 A,B⟩ ?_;intro y a w ⟨i,j⟩;have u:=cd y w j;unfold EvCode at u;refine Go.wp_mono (u a i) λe h w' H=>?_;obtain⟨s',d,hs⟩:=H;cases e with
 |normal=>
  obtain⟨z,m,f,L,r⟩:=hs;exact⟨z,⟨g h s' d f z L,r⟩,m⟩
 |exit id=>exact⟨s',d,hs⟩
 |goto l=>exact⟨s',d,hs⟩
 |ret=>exact⟨s',d,hs⟩
 |panic M=>exact⟨s',d,hs⟩
 |outgrown=>exact⟨s',d,hs⟩
theorem lp(hτ:aU P τ){σ:Type}(I:σ ->List (Nat×Value))(R:σ ->World ->Prop)(μ:σ ->Nat)(x0:σ)
  (d:s.d=[]) (f:Has s (I x0)) (g:R x0 w)
  (cd:∀x w,R x w ->jK P τ n c ⟨I x,[]⟩ w (tT (λs' w'=>∃y,μ y<μ x/\s'.d=[]/\Has s' (I y)/\R y w') K)):EvCode P n (.loop c) s w K:=
 Iw I R μ x0 d f g λx w h=>Iv hτ (cd x w h)
end
theorem wrap64{x:Int}(d:0<=x)(h:x<18446744073709551616):IntKind.wrap .u64 x=x:=by
 simp only[IntKind.wrap,IntKind.bits,IntKind.signed];simp;omega
section
variable{P:Program}{k:Value ->World ->Prop}{kq:Value ->Prop}{C:World ->Prop}{t:TypeId}{w:World}
theorem u64{r:Int}{k:Value ->Prop}(h1:0<=r)(h2:r<18446744073709551616)(d:k (.int .u64 r)):EvInt .u64 r k:=pz r (wrap64 h1 h2) d
theorem rf{b o h cap sz:Nat}:sliced (some ⟨b,o,none⟩) 0 h cap sz= .slice (some ⟨b,o,none⟩) h cap:=by
 simp only[sliced,Option.map_some,pA,Nat.zero_mul,Nat.add_zero,Nat.sub_zero];split<;>rfl
section
variable{τ:Tau}(hτ:aU P τ){T e sz bs:Nat}(hs:look τ.slcs T=some (e,sz,bs)){a:Option Addr}{len cap:Nat}
include hτ hs
theorem pE{j:IntKind}{i:Int}(h:Nat)(v:Value)(hi:i=h)(hl:h<=cap)(d:sliced a 0 h cap sz=v)(f:k v w):EvRun P (Instr.sliceAt T (.slice a len cap) none (some (.int j i)) none) w k:=by
 subst d;exact rb hτ hs h hi hl f
end
end
def Ix(md:Region.Mode)(ops:Array Oper)(j:Nat):Bool:=
 match ops[j]? with
 |some o=>(List.range ops.size).all λk=>k==j||o.after.any λe=>Region.binds md e && e.on==k
 |none=>false
def Co(P:Program)(md:Region.Mode)(ops:Array Oper)(Q:Exit ->Act ->World ->Prop)(S:World ->Prop):Nat ->Array Bool ->Act ->World ->Prop
 |0,listed,a,w=>Region.ready md ops listed=[]/\Q .normal a w
 |fuel+1,listed,a,w=>(Region.ready md ops listed=[] ->Q .normal a w)/\
  ∀i∈Region.ready md ops listed,wpOp P ops Q i (λa' w'=>(S w' \/Ix md ops i=true)/\Co P md ops Q S fuel (listed.setIfInBounds i true) a' w') a w
@[irreducible] def EvAnyG (P:Program) (n:Nat) (S:World ->Prop) (l:List Oper) (K:Exit ->St ->World ->Prop) (fuel:Nat) (listed:Array Bool) (s:St) (w:World):Prop:=
 ∀a,Fr n a s ->Co P .any l.toArray (xn n K) S fuel listed a w
def Flat{α:Type}(R:Rd α):Prop:=∀(C C':Mem) (cs:List Value) (x:α),R.den C cs x ->R.den C' cs x
theorem Hk':Flat wG':=λ_ _ _ _ h=>h
theorem Cp{α:Type}{R:Rd α}{C:Mem}{b:Nat}:∀(l:List α) (o:Nat),(∀i x,l[i]?=some x ->R.At C b (o+i*R.sz) x) ->∃css,All2 (R.den C) css l/\∀i x j u,css[i]?=some x ->x[j]?=some u ->C b (o+i*R.sz+j) u
 |[],o,h=>⟨[],trivial,λi x j u hi=>by simp at hi⟩
 |y::r,o,h=>by
  obtain⟨cs,h1,h2⟩:=h 0 y rfl;obtain⟨css,f,g⟩:=Cp r (o+R.sz) (λi x hi=>by
   have:=h (i+1) x (by simpa using hi)
   rwa [show o+(i+1)*R.sz=o+R.sz+i*R.sz by rw[Nat.add_mul];omega]at this)
  refine⟨cs::css,⟨h1,f⟩,λi x j u hi d=>?_⟩
  match i with
  |0=>
   simp at hi;subst hi;exact h2 j u d
  |i+1=>
   have:=g i x j u (by simpa using hi) d
   rwa [show o+(i+1)*R.sz+j=o+R.sz+i*R.sz+j by rw[Nat.add_mul];omega]
theorem Own.apF{α:Type}{R:Rd α}{e lo:Nat}{w:World}{v:Value}{l:List α}{P:Program}{τ:Tau}(hτ:aU P τ){T bs:Nat}(hs:look τ.slcs T=some (e,R.sz,bs)){z:List Value}(A:τ.zero e=some z)(hsz:0<R.sz){k:Value ->World ->Prop}{c ty:Nat}{a:Option Addr}
  (h:Own R e lo w v l) (D:Flat R) {C:Mem} (E:Sub C w) (xs:List α) (m:Sl R C a xs)
  (d:(l.length+xs.length)*bs<=140737488355328) (f:l.length+xs.length<=maxLen)
  (B:∀g w',Own R e lo w' g (l++xs) ->Kp v.ownBlock.toList w w' ->(g.ownBlock=v.ownBlock \/g.ownBlock=some w.heap.size) ->k g w'):EvRun P (Builtin.append_ #[T,T] ty #[v,.slice a xs.length c]) w k:=by
 rcases m.2 with F|⟨b,o,rfl,H⟩
 ·have:xs=[]:=List.length_eq_zero_iff.1 F
  subst this;exact h.ap hτ hs A hsz [] [] rfl trivial (.inl rfl) d f B
 ·obtain⟨r,I,L⟩:=Cp xs o H
  exact h.ap hτ hs A hsz xs r rfl (I.mono λO x m=>D _ _ _ _ m) (.inr ⟨b,o,rfl,λi x j u M N=>E _ _ _ (L i x j u M N)⟩) d f B
theorem Own.cap{α:Type}{R:Rd α}{e lo:Nat}{w:World}{v:Value}{l:List α}(h:Own R e lo w v l):∃a cap,v= .slice a l.length cap/\l.length<=cap:=by
 obtain⟨d,f,_⟩:=h.row;rcases f.2 with ⟨rfl,g⟩|⟨m,cap,i,rfl,_,_,j,_⟩
 ·exact⟨none,0,by rw[g],Uo⟩
 ·exact⟨_,cap,rfl,j⟩
theorem Sub.lt{C:Mem}{w:World}(h:Sub C w):∀b o v,C b o v ->b<w.heap.size:=λb o v d=>(h b o v d).lt
theorem rh{P:Program}{τ:Tau}(hτ:aU P τ){T:Nat}{fs:List (Nat×Nat×Bool)}{z:List Nat}(hr:look τ.tab T=some (fs,z)){b:Nat}{w:World}{K:Value ->Prop}(cs:List Value)(hl:cs.length=z.length)(hc:∀j v,cs[j]?=some v ->Cl w.heap b j v)(g:K (.agg cs.toArray)):
  EvRun P (loadVar T ⟨b,0,none⟩) w λv w'=>w'=w/\K v:=by
 obtain⟨A,h,m,f,i,r,d,B⟩:=hτ.tab T fs z hr;have:=run_loadCells_list (P:=P) (w:=w) ⟨b,0,none⟩ cs (λj v u=>by rw[pA,Nat.zero_add];exact(hc j v u).cell);rw[hl]at this;refine run (v:=.agg cs.toArray) (w':=w) ?_ ⟨rfl,g⟩;simp[loadVar,isAgg,run_underlying h,sizeOf,typeInfo,r,d,this]
theorem Cq{P:Program}{τ:Tau}(hτ:aU P τ){T e sz bs:Nat}(hs:look τ.slcs T=some (e,sz,bs)){x y:Operand}{a:Option Addr}{n c:Nat}{w:World}{k:Value ->World ->Prop}(h:k (.bool a.isNone) w):
  EvRun P (do eqGuard .eql T x y (.slice a n c) (.slice none 0 0);binOp .eql T (.slice a n c) (.slice none 0 0)) w k:=by
 obtain⟨d,_⟩:=hτ.slcs T e sz bs hs;refine run (v:=.bool a.isNone) ?_ h;rw[eqGuard_at_slice];simp only[Sem.run_bind,Sem.run_pure,Result.andThen_ok];exact Lib.run_eql_slice_nil w T e a n c 0 0 d
theorem Cr{α:Type}{k:Nat}:∀(css:List (List α)),(∀cs∈css,cs.length=k) ->∀(i j:Nat) (cs:List α) (u:α),css[i]?=some cs ->j<k ->(css.set i (cs.set j u)).flatten=css.flatten.set (i*k+j) u
 |[],_,i,j,cs,u,h1,_=>by simp at h1
 |c::r,h,0,j,cs,u,h1,h2=>by
  simp at h1;subst h1;have hc:=h c Ud;rw[List.set_cons_zero,List.flatten_cons,List.flatten_cons,Nat.zero_mul,Nat.zero_add,List.set_append_left _ _ Uo]
 |c::r,h,i+1,j,cs,u,h1,h2=>by
  have hc:=h c Ud;have:=Cr r (λc hc=>h c (by simp[hc])) i j cs u (by simpa using h1) h2;rw[List.set_cons_succ,List.flatten_cons,List.flatten_cons,this,List.set_append_right _ _ (by rw[hc,Nat.add_mul];omega)];rw[show (i+1)*k+j-c.length=i*k+j by rw[hc,Nat.add_mul];omega]
abbrev iV(n:Int):Value:=.int .i64 n
@[simp] abbrev XL (X:List Nat) (w:World):Prop:=∀b∈X,b<w.heap.size
theorem Kp.tq{X:List Nat}{w w' d:World}(k:Kp X w w')(f:Kp X w' d):Kp X w d:=k.trans f λ_ h _=>h
theorem Bk.kq{w w':World}{b T:Nat}{cs:List Value}(h:Bk w.heap b cs T)(k:Kp [] w w'):Bk w'.heap b cs T:=h.kp k Ud
theorem kQd{X:List Nat}(w:World){n:Nat}:Kp X w {w with drawn:=n}:=(Kp.refl X w).dr n
abbrev dr(w:World):World:={w with drawn:=w.drawn+1}
theorem _root_.JJ{α:Type}{a b:α}{l:List α}:a∈b::l↔a=b∨a∈l:=List.mem_cons 
theorem _root_.JK{α:Type}{a b:List α}:(a++b).length=a.length+b.length:=List.length_append 
theorem _root_.JQ{α:Type}{l:List α}{i:Nat}{a:α}(h:l[i]?=some a):a∈l:=List.mem_of_getElem? h
theorem _root_.JV{α:Type}{a:α}{l:List α}:(a::l).length=l.length+1:=List.length_cons 
theorem _root_.JW{α:Type}{a:α}{s t:List α}:a∈s++t↔a∈s∨a∈t:=List.mem_append 
theorem _root_.JZ{α:Type}{a:α}:¬ a∈([]:List α):=List.not_mem_nil 
theorem _root_.JY{α:Type}{l:List α}{i:Nat}(h:l.length≤i):l.drop i=[]:=List.drop_eq_nil_of_le h
theorem _root_.JX{α β:Type}{f:α→β}{l:List α}{i:Nat}:(l.map f)[i]?=l[i]?.map f:=List.getElem?_map 
theorem _root_.JU{α:Type}:([]:List α).length=0:=List.length_nil 
theorem _root_.JH{α:Type}{a:α}{l:List α}(h:a∈l):∃i:Nat,l[i]?=some a:=List.getElem?_of_mem h
theorem _root_.JG{α:Type}{l:List α}{i:Nat}(h:l.length≤i):l.take i=l:=List.take_of_length_le h
theorem _root_.JF{α:Type}{l:List α}:l.length=0↔l=[]:=List.length_eq_zero_iff 
theorem _root_.JD{α:Type}(l:List α):l++[]=l:=List.append_nil l
theorem _root_.JB{α:Type}{a b:α}(h:some a=some b):a=b:=Option.some.inj h
theorem _root_.KJ(n:Nat):n≤n:=Nat.le_refl n
theorem _root_.KQ{n m k:Nat}(h:n≤m)(h2:m≤k):n≤k:=Nat.le_trans h h2
theorem _root_.KV(n:Nat):0≤n:=Nat.zero_le n
theorem _root_.KW(n:Nat):0+n=n:=Nat.zero_add n
theorem _root_.KZ{n m k:Nat}(h:n<m)(h2:m≤k):n<k:=Nat.lt_of_lt_of_le h h2
theorem _root_.KY{c:Prop}{i:Decidable c}(n:¬ c){α:Sort _}{t e:α}:ite c t e=e:=if_neg n
theorem _root_.KX{c:Prop}{i:Decidable c}(n:c){α:Sort _}{t e:α}:ite c t e=t:=if_pos n
theorem _root_.KU{p:Prop} [Decidable p](h:p):decide p=true:=decide_eq_true h
theorem _root_.KH{p:Prop} [Decidable p](h:¬ p):decide p=false:=decide_eq_false h
theorem _root_.KG{α β:Sort _}{a b:α}(f:α→β)(h:a=b):f a=f b:=congrArg f h
theorem _root_.KF{α β:Type}{l:List α}(f:α→β):(l.map f).length=l.length:=List.length_map f
theorem _root_.KB{α β:Type}{f:α→β}{l m:List α}:(l++m).map f=l.map f++m.map f:=List.map_append 
theorem _root_.QJ{n m:Nat}(h:Nat.beq n m=true):n=m:=Nat.eq_of_beq_eq_true h
theorem _root_.QK{α:Type}{l:List α}{i:Nat}{a:α}:l.getD i a=l[i]?.getD a:=List.getD_eq_getElem?_getD 
theorem _root_.QQ{α:Type}{l:List α}{i:Nat}:l.take (i+1)=l.take i++l[i]?.toList:=List.take_add_one 
theorem _root_.QV{α:Type}{a:α}{l:List α}(m:List α)(h:a∈l):a∈m++l:=List.mem_append_right m h
theorem _root_.QW{α:Type}{a:α}{l:List α}(m:List α)(h:a∈l):a∈l++m:=List.mem_append_left m h
theorem _root_.QZ{α:Type}(a b:α):(some a=some b)=(a=b):=Option.some.injEq a b
theorem _root_.QY{p:Prop} [Decidable p](h:¬ ¬ p):p:=Decidable.of_not_not h
theorem _root_.QX{n m:Nat}(h:Nat.ble n m=true):n≤m:=Nat.le_of_ble_eq_true h
theorem _root_.QU{α:Type}{l m:List α}{i:Nat}(h:l.length≤i):(l++m)[i]?=m[i-l.length]?:=List.getElem?_append_right h
theorem _root_.QH{α:Type}{l m:List α}{i:Nat}(h:i<l.length):(l++m)[i]?=l[i]?:=List.getElem?_append_left h
theorem _root_.QF{α:Type}{l:List α}{i:Nat}(h:l.length≤i):l[i]?=none:=List.getElem?_eq_none h
theorem _root_.QD{α β:Type}{l:List α}{a:α}{f:α→β}(h:a∈l):f a∈l.map f:=List.mem_map_of_mem h
theorem _root_.VJ{α:Type}{i:Nat}{l:List α}:(l.take i).length=min i l.length:=List.length_take 
theorem _root_.VK{α:Type}{i:Nat}{l:List α}:(l.drop i).length=l.length-i:=List.length_drop 
theorem _root_.VQ:True:=True.intro 
end Go.Wx
namespace Cd
open Go.Wx
structure Nd where
 op:Int
 a:Int
 b:Int
def rNd:Rd Nd where
 sz:=3
 den C cs x:=cs=[iV x.op,iV x.a,iV x.b]/\I64 x.op/\I64 x.a/\I64 x.b
 len:=by rintro C cs x ⟨rfl,_⟩;rfl
 mono:=by rintro C C' cs x hc h;exact h
 one:=by rintro C cs x ⟨rfl,_⟩ u hu;simp at hu;rcases hu with rfl|rfl|rfl<;>rfl
def gJ{α:Type}(R:Rd α):Rd (List α) where
 sz:=1
 den C cs l:=∃a cap,cs=[.slice a l.length cap]/\l.length<=cap/\Sl R C a l
 len:=by rintro C cs x ⟨a,cap,rfl,_⟩;rfl
 mono:=by rintro C C' cs x hc ⟨a,cap,rfl,h',h⟩;exact⟨a,cap,rfl,h',h.mono hc⟩
 one:=by rintro C cs x ⟨a,cap,rfl,_⟩ u hu;simp at hu;subst hu;rfl
inductive Tr where
 |mk (n:Nd) (ks:List Tr)
def Tr.n:Tr ->Nd
 | .mk n _=>n
def Tr.ks:Tr ->List Tr
 | .mk _ ks=>ks
mutual
def row:Tr ->List Nd
 | .mk n ks=>n::rows ks
def rows:List Tr ->List Nd
 |[]=>[]
 |x::r=>row x++rows r
end
theorem aR(x:Tr):0<(row x).length:=by
 cases x;simp[row]
theorem de':∀(l m:List Tr),rows (l++m)=rows l++rows m
 |[],m=>rfl
 |x::r,m=>by simp[rows,de' r m]
section
variable{σ:Type}(cnt:σ ->Nd ->Option Nat)(nx:σ ->Nd ->Nat ->σ)
def kidsL(p:σ ->List Nd ->Option (Tr×List Nd))(g:Nat ->σ):Nat ->Nat ->List Nd ->Option (List Tr×List Nd)
 |_,0,r=>some ([],r)
 |k,c+1,r=>match p (g k) r with
  |none=>none
  |some (x,r')=>match kidsL p g (k+1) c r' with
   |none=>none
   |some (xs,r'')=>some (x::xs,r'')
def parse:Nat ->σ ->List Nd ->Option (Tr×List Nd)
 |0,_,_=>none
 |_+1,_,[]=>none
 |f+1,s,n::r=>match cnt s n with
  |none=>none
  |some c=>match kidsL (parse f) (nx s n) 0 c r with
   |none=>none
   |some (ks,r')=>some (.mk n ks,r')
mutual
def okT:Tr ->σ ->Prop
 | .mk n ks,s=>cnt s n=some ks.length/\bH ks n s 0
def bH:List Tr ->Nd ->σ ->Nat ->Prop
 |[],_,_,_=>True
 |x::r,n,s,k=>okT x (nx s n k)/\bH r n s (k+1)
end
variable{cnt nx}
theorem Cs{p:σ ->List Nd ->Option (Tr×List Nd)}{n:Nd}{s:σ}(g:∀s t x r,p s t=some (x,r) ->t=row x++r/\okT cnt nx x s):∀(c k:Nat) (t:List Nd) (ks:List Tr) (r:List Nd),kidsL p (nx s n) k c t=some (ks,r) ->t=rows ks++r/\ks.length=c/\bH cnt nx ks n s k
 |0,k,t,ks,r,h=>by
  simp only[kidsL,QZ,Prod.mk.injEq]at h;obtain⟨rfl,rfl⟩:=h;exact⟨rfl,rfl,trivial⟩
 |c+1,k,t,ks,r,h=>by
  simp only[kidsL]at h;split at h
  ·cases h
  rename_i x i j;split at h
  ·cases h
  rename_i m d f;simp only[QZ,Prod.mk.injEq]at h;obtain⟨rfl,rfl⟩:=h;obtain⟨u,z⟩:=g _ _ _ _ j;obtain⟨A,B,D⟩:=Cs g c (k+1) i m d f;exact⟨by rw[u,A];simp[rows],by simp[B],z,D⟩
theorem cX':∀(f:Nat) (s:σ) (t:List Nd) (x:Tr) (r:List Nd),parse cnt nx f s t=some (x,r) ->t=row x++r/\okT cnt nx x s
 |0,s,t,x,r,h=>by simp[parse]at h
 |f+1,s,[],x,r,h=>by simp[parse]at h
 |f+1,s,n::t,x,r,h=>by
  simp only[parse]at h;split at h
  ·cases h
  rename_i c hc;split at h
  ·cases h
  rename_i ks r' d;simp only[QZ,Prod.mk.injEq]at h;obtain⟨rfl,rfl⟩:=h;obtain⟨g,i,j⟩:=Cs (cX' f) c 0 t ks r' d;exact⟨by rw[g];simp[row],by rw[hc,i],j⟩
mutual
theorem fH':∀(x:Tr) (f:Nat) (s:σ) (r:List Nd),(row x).length<=f ->okT cnt nx x s ->parse cnt nx f s (row x++r)=some (x,r)
 | .mk n ks,0,s,r,d,_=>by simp[row]at d
 | .mk n ks,f+1,s,r,d,h=>by
  obtain⟨h1,h2⟩:=h;have:=qj' ks f n s 0 r (by simpa[row]using d) h2;simp only[row,List.cons_append,parse,h1,this]
theorem qj':∀(ks:List Tr) (f:Nat) (n:Nd) (s:σ) (k:Nat) (r:List Nd),(rows ks).length<=f ->bH cnt nx ks n s k ->kidsL (parse cnt nx f) (nx s n) k ks.length (rows ks++r)=some (ks,r)
 |[],f,n,s,k,r,_,_=>rfl
 |x::l,f,n,s,k,r,d,h=>by
  obtain⟨h1,h2⟩:=h;simp only[rows,JK]at d;have g:=fH' x f (nx s n k) (rows l++r) Uo h1;have i:=qj' l f n s (k+1) r Uo h2;simp only[rows,List.append_assoc,JV,kidsL,g,i]
end
theorem uc{f:Nat}{s:σ}{t:List Nd}{x:Tr}{r:List Nd}(h:parse cnt nx f s t=some (x,r)):t.length=(row x).length+r.length:=by
 rw[(cX' f s t x r h).1,JK]
theorem Ct{f g:Nat}{s:σ}{t:List Nd}(j:t.length<=f)(m:t.length<=g):parse cnt nx f s t=parse cnt nx g s t:=by
 cases h:parse cnt nx f s t with
 |some p=>
  obtain⟨x,r⟩:=p;obtain⟨d,i⟩:=cX' _ _ _ _ _ h;subst d;exact(fH' x g s r (by simp at m;omega) i).symm
 |none=>
  cases u:parse cnt nx g s t with
  |none=>rfl
  |some p=>
   obtain⟨x,r⟩:=p;obtain⟨d,i⟩:=cX' _ _ _ _ _ u;subst d;rw[fH' x f s r (by simp at j;omega) i]at h;cases h
theorem Iy{f:Nat}{s:σ}{t:List Nd}{a:Nat}(ha:a<=t.length){x:Tr}{r:List Nd}(h:parse cnt nx f s (t.drop a)=some (x,r)):r=t.drop (t.length-r.length)/\a<t.length-r.length/\r.length<=t.length/\(row x).length=t.length-r.length-a:=by
 obtain⟨d,_⟩:=cX' _ _ _ _ _ h;have g:=uc h;have i:=aR x;rw[VK]at g;refine⟨?_,Uo,Uo,Uo⟩;have e:t.length-r.length=a+(row x).length:=Uo
 rw[e,<- List.drop_drop,d,List.drop_left]
def pF(s:σ)(t:List Nd):Option Tr:=match parse cnt nx t.length s t with
 |some (x,[])=>some x
 |_=>none
theorem Iz{s:σ}{t:List Nd}{x:Tr}(h:pF (cnt:=cnt) (nx:=nx) s t=some x):t=row x/\okT cnt nx x s:=by
 unfold pF at h;split at h
 ·rename_i y d
  obtain rfl:=JB h;obtain⟨f,g⟩:=cX' _ _ _ _ _ d;exact⟨by rw[f];simp,g⟩
 ·cases h
theorem IA{s:σ}{x:Tr}(h:okT cnt nx x s):pF (cnt:=cnt) (nx:=nx) s (row x)=some x:=by
 unfold pF;have:=fH' x (row x).length s [] (KJ _) h;rw[JD]at this;rw[this]
end
mutual
def sL':Tr ->Nat
 | .mk _ ks=>1+kO' ks
def kO':List Tr ->Nat
 |[]=>0
 |x::r=>sL' x+kO' r
end
mutual
theorem Aq':∀x:Tr,(row x).length=sL' x
 | .mk n ks=>by rw[row,sL',JV,rows_len ks];omega
theorem rows_len:∀l:List Tr,(rows l).length=kO' l
 |[]=>rfl
 |x::r=>by rw[rows,kO',JK,Aq' x,rows_len r]
end
theorem IB(x:Tr):0<sL' x:=by
 cases x;simp only[sL'];omega
theorem kP':∀l:List Tr,l.length<=kO' l
 |[]=>KJ _
 |x::r=>by
  have:=kP' r;have:=IB x;simp only[kO',JV];omega
end Cd
namespace Tm
open Go.Wx Cd
inductive Md where
 |tm|fn|am
def aI(x lo hi:Int):Bool:=decide (lo<=x) && decide (x<=hi)
theorem dI{x lo hi:Int}:aI x lo hi=true↔lo<=x/\x<=hi:=by simp[aI]
def aw(n:Nd):Bool:=
 if n.op=1 then aI n.a 0 1048576 && decide (n.b=0)
 else if n.op=2 then (decide (n.a=0)||decide (n.a=1)) && aI n.b 1 4
 else if n.op=3 then aI n.a 0 16 && aI n.b 0 1000
 else if n.op=4 \/n.op=5 \/n.op=6 \/n.op=7 then decide (n.a=0) && decide (n.b=0)
 else if n.op=8 \/n.op=9 then aI n.a 0 63 && decide (n.b=0)
 else if n.op=10 then aI n.a 0 63 && aI n.b 0 15
 else if n.op=11 then aI n.a 0 63 && aI n.b 0 16
 else if n.op=12 then aI n.b 1 4 && aI n.a 0 (n.b-1)
 else if n.op=13 then aI n.a 0 15 && decide (n.b=0)
 else false
def bw(n:Nd):Int:=if n.op=4 \/n.op=5 \/n.op=6 \/n.op=13 then 2 else if n.op=7 then 3 else if n.op=11 then 2+n.b else if n.op=12 then n.b else 0
def cnt:Md ->Nd ->Option Nat
 | .tm,n=>if aw n=true/\n.op≠3/\n.op≠13 then some (if n.op=2 then n.b.toNat else (bw n).toNat)else none
 | .fn,n=>if n.op=13/\aw n=true then some 2 else none
 | .am,n=>if n.op=3/\aw n=true then some 0 else none
def nx:Md ->Nd ->Nat ->Md
 | .tm,n,_=>if n.op=2 then .am else if n.op=12 then .fn else .tm
 | .fn,_,_=>.tm
 | .am,_,_=>.am
def rT':Int ->List Tr ->Bool
 |_,[]=>true
 |last,x::r=>decide (last<x.n.a) && rT' x.n.a r
mutual
def gF':Tr ->Bool
 | .mk n ks=>(if n.op=2 then rT' (-1) ks else true) && eV' ks
def eV':List Tr ->Bool
 |[]=>true
 |x::r=>gF' x && eV' r
end
def endS(t:List Nd)(s:Md)(a:Nat):Option Nat:=match parse cnt nx t.length s (t.drop a)with
 |some (x,r)=>if gF' x=true then some (t.length-r.length)else none
 |none=>none
def gL(t:List Nd)(s:Md):Nat ->Nat ->Option Nat
 |0,a=>some a
 |c+1,a=>match endS t s a with
  |none=>none
  |some a'=>gL t s c a'
def gM(t:List Nd):Nat ->Int ->Nat ->Option Nat
 |0,_,a=>some a
 |c+1,last,a=>match t[a]? with
  |some m=>if m.op=3/\aw m=true/\last<m.a then gM t c m.a (a+1)else none
  |none=>none
theorem Cv{f g:Nat}(s:Nat ->Md):∀(c k:Nat) (r:List Nd),r.length<=f ->r.length<=g ->kidsL (parse cnt nx f) s k c r=kidsL (parse cnt nx g) s k c r
 |0,k,r,_,_=>rfl
 |c+1,k,r,d,i=>by
  simp only[kidsL];rw[Ct (cnt:=cnt) (nx:=nx) (s:=s k) d i];cases h:parse cnt nx g (s k) r with
  |none=>rfl
  |some q=>
   obtain⟨x,r'⟩:=q;have:=uc h;simp only;rw[Cv (f:=f) (g:=g) s c (k+1) r' Uo Uo]
theorem Cw(t:List Nd)(s:Md):∀(c k a:Nat),a<=t.length ->gL t s c a=match kidsL (parse cnt nx t.length) (λ_=>s) k c (t.drop a)with
  |some (ks,r)=>if eV' ks=true then some (t.length-r.length)else none
  |none=>none
 |0,k,a,ha=>by simp[gL,kidsL,eV'];omega
 |c+1,k,a,ha=>by
  simp only[gL,kidsL,endS];cases h:parse cnt nx t.length s (t.drop a)with
  |none=>rfl
  |some q=>
   obtain⟨x,r⟩:=q;obtain⟨f,g,i,_⟩:=Iy ha h;simp only
   by_cases d:gF' x=true
   ·rw[KX d]
    simp only;rw[Cw t s c (k+1) (t.length-r.length) Uo,<- f];cases kidsL (parse cnt nx t.length) (λ_=>s) (k+1) c r with
    |none=>rfl
    |some q=>simp[eV',d]
   ·rw[KY d]
    simp only;cases kidsL (parse cnt nx t.length) (λ_=>s) (k+1) c r with
    |none=>rfl
    |some q=>simp[eV',d]
theorem Cx(t:List Nd)(s:Md){a:Nat}{n:Nd}(d:t[a]?=some n){c:Nat}(hc:cnt s n=some c):
  endS t s a=match kidsL (parse cnt nx t.length) (nx s n) 0 c (t.drop (a+1))with
  |some (ks,r)=>if gF' (.mk n ks)=true then some (t.length-r.length)else none
  |none=>none:=by
 have i:=aL d;obtain⟨x,h,j⟩:=az i;rw[d]at h;obtain rfl:=JB h;have m:(t.drop (a+1)).length<=t.length:=Ud
 unfold endS;rw[j];have e:t.length=(t.length-1)+1:=Uo
 rw[show parse cnt nx t.length s (n::t.drop (a+1))=parse cnt nx ((t.length-1)+1) s (n::t.drop (a+1)) by rw[<- e]];simp only[parse,hc];have u:=Cv (f:=t.length-1) (g:=t.length) (nx s n) c 0 (t.drop (a+1)) Uk m;rw[u];cases kidsL (parse cnt nx t.length) (nx s n) 0 c (t.drop (a+1))with
 |none=>rfl
 |some q=>rfl
theorem ud(t:List Nd)(s:Md){a:Nat}(h:∀n,t[a]?=some n ->cnt s n=none):endS t s a=none:=by
 by_cases d:a<t.length
 ·obtain⟨n,f,g⟩:=az d
  unfold endS;rw[g];have e:t.length=(t.length-1)+1:=Uo
  rw[show parse cnt nx t.length s (n::t.drop (a+1))=parse cnt nx ((t.length-1)+1) s (n::t.drop (a+1)) by rw[<- e]];simp only[parse,h n f]
 ·unfold endS
  rw[JY Uo];cases t.length<;>simp[parse]
theorem ri(t:List Nd)(s:Md){a:Nat}{n:Nd}(f:t[a]?=some n){c:Nat}(hc:cnt s n=some c)(h2:s= .tm ->n.op≠2){s':Md}(hs:∀k,nx s n k=s')(d:n.op≠2):endS t s a=gL t s' c (a+1):=by
 have g:=aL f;rw[Cx t s f hc,Cw t s' c 0 (a+1) Uo,show nx s n=λ_=>s' from funext hs];cases kidsL (parse cnt nx t.length) (λ_=>s') 0 c (t.drop (a+1))with
 |none=>rfl
 |some q=>simp[gF',d]
theorem Cy(t:List Nd):∀(c k:Nat) (d:Int) (a:Nat),a<=t.length ->gM t c d a=match kidsL (parse cnt nx t.length) (λ_=>Md.am) k c (t.drop a)with
  |some (ks,r)=>if rT' d ks=true/\eV' ks=true then some (t.length-r.length)else none
  |none=>none
 |0,k,d,a,ha=>by simp[gM,kidsL,rT',eV'];omega
 |c+1,k,d,a,ha=>by
  simp only[gM,kidsL]
  by_cases g:a<t.length
  ·obtain⟨n,i,j⟩:=az g
   have e:t.length=(t.length-1)+1:=Uo
   have m:parse cnt nx t.length .am (t.drop a)=if n.op=3/\aw n=true then some (.mk n [],t.drop (a+1))else none:=by
    skip
    rw[j,show parse cnt nx t.length .am (n::t.drop (a+1))=parse cnt nx ((t.length-1)+1) .am (n::t.drop (a+1)) by rw[<- e]];simp only[parse,cnt]
    by_cases h:n.op=3/\aw n=true
    ·simp only[KX h,kidsL]
    ·simp only[KY h]
   rw[i];simp only[m]
   by_cases h:n.op=3/\aw n=true
   ·rw[KX h]
    simp only;have u:n.op≠2:=by rw[h.1];decide
    by_cases f:d<n.a
    ·rw[KX ⟨h.1,h.2,f⟩,Cy t c (k+1) n.a (a+1) Uo]
     cases kidsL (parse cnt nx t.length) (λ_=>Md.am) (k+1) c (t.drop (a+1))with
     |none=>rfl
     |some q=>simp[rT',eV',gF',Tr.n,f,u]
    ·rw[KY λq=>f q.2.2]
     cases kidsL (parse cnt nx t.length) (λ_=>Md.am) (k+1) c (t.drop (a+1))with
     |none=>rfl
     |some q=>simp[rT',Tr.n,f]
   ·rw[KY h,KY λq=>h ⟨q.1,q.2.1⟩]
  ·rw[QF Uo]
   have:parse cnt nx t.length .am (t.drop a)=none:=by
    skip
    rw[JY Uo];cases t.length<;>simp[parse]
   simp only[this]
theorem Cz(t:List Nd){a:Nat}{n:Nd}(d:t[a]?=some n)(h2:n.op=2)(f:aw n=true):endS t .tm a=gM t n.b.toNat (-1) (a+1):=by
 have h:=aL d;have g:cnt .tm n=some n.b.toNat:=by simp[cnt,f,h2]
 rw[Cx t .tm d g,Cy t n.b.toNat 0 (-1) (a+1) Uo,show nx .tm n=λ_=>Md.am from funext λk=>by simp[nx,h2]];cases kidsL (parse cnt nx t.length) (λ_=>Md.am) 0 n.b.toNat (t.drop (a+1))with
 |none=>rfl
 |some q=>simp[gF',h2]
theorem CA{t:List Nd}{s:Md}{a e:Nat}(h:endS t s a=some e):a<e/\e<=t.length:=by
 unfold endS at h;split at h
 ·rename_i x r d
  split at h
  ·obtain rfl:=JB h
   have f:=uc d;have g:=aR x;rw[VK]at f;omega
  ·cases h
 ·cases h
def Ok(s:Md)(x:Tr):Prop:=okT cnt nx x s/\gF' x=true
def ny(t:List Nd):Option Tr:=match pF (cnt:=cnt) (nx:=nx) Md.tm t with
 |some x=>if gF' x=true then some x else none
 |none=>none
theorem CB{t:List Nd}{x:Tr}(h:ny t=some x):t=row x/\Ok .tm x:=by
 unfold ny at h;split at h
 ·rename_i y d
  split at h
  ·rename_i f
   obtain rfl:=JB h;obtain⟨g,i⟩:=Iz d;exact⟨g,i,f⟩
  ·cases h
 ·cases h
theorem CD{x:Tr}(h:Ok .tm x):ny (row x)=some x:=by
 unfold ny;rw[IA h.1];simp[h.2]
theorem IC{s:Md}{x:Tr}(h:Ok s x)(p q:List Nd):endS (p++(row x++q)) s p.length=some (p.length+(row x).length):=by
 unfold endS;rw[List.drop_left,fH' x _ s q Uk h.1];simp only[h.2,if_true]
 congr 1
 simp;omega
theorem CE(t:List Nd):endS t .tm 0=some t.length↔(ny t).isSome:=by
 unfold endS ny pF;rw[List.drop_zero];cases h:parse cnt nx t.length Md.tm t with
 |none=>simp
 |some q=>
  obtain⟨x,r⟩:=q;have f:=uc h;have g:=aR x;cases r with
  |nil=>by_cases d:gF' x=true<;>simp[d]
  |cons y r=>
   simp only[JV]at f
   by_cases d:gF' x=true
   ·simp[d];omega
   ·simp[d]
open Go Go.Wx Cd
def bi(n:Nd)(k:Int):Int:=if ((n.op=4 \/n.op=5)/\k=1) \/(n.op=7/\k=2)then 1 else 0
def arC(n:Nd)(nb:Int)(k:Int):Int:=if n.op=13 then (if k=1 then nb else 0)else bi n k
theorem mr{n:Nd}(h:n.op≠13)(nb k:Int):arC n nb k=bi n k:=by simp[arC,h]
section
variable{S:Type}(one:S ->Nd ->Int ->Option S)(raw:S ->Nd ->S)
mutual
def wT:Tr ->Int ->Int ->S ->Option S
 | .mk n ks,d,nb,s=>match (if n.op=3 \/n.op=13 then some (raw s n)else one s n d)with
  |none=>none
  |some s1=>wK ks n nb 0 d s1
def wK:List Tr ->Nd ->Int ->Int ->Int ->S ->Option S
 |[],_,_,_,_,s=>some s
 |x::r,n,nb,k,d,s=>match wT x (d+arC n nb k) n.b s with
  |none=>none
  |some s1=>wK r n nb (k+1) d s1
end
end
def cK{U:Type}(s:U×List Nd)(n:Nd):U×List Nd:=(s.1,s.2++[n])
theorem CF{U:Type}(one:U×List Nd ->Nd ->Int ->Option (U×List Nd)):∀(ks:List Tr) (n:Nd) (nb k d:Int) (s:U×List Nd),bH cnt nx ks n .tm k.toNat ->n.op=2 ->wK one cK ks n nb k d s=some (s.1,s.2++rows ks)
 |[],n,nb,k,d,s,_,_=>by simp[wK,rows]
 | .mk m l::r,n,nb,k,d,s,h,h2=>by
  obtain⟨h3,h4⟩:=h;have g:cnt .am m=some l.length:=by
   have:=h3.1
   rwa [show nx Md.tm n k.toNat= .am by simp[nx,h2]]at this
  have i:m.op=3/\l=[]:=by
   simp only[cnt]at g;split at g
   ·rename_i q
    exact⟨q.1,List.length_eq_zero_iff.1 (JB g).symm⟩
   ·cases g
  obtain⟨j,rfl⟩:=i;have u:∀f,bH cnt nx r n .tm f:=by
   have:∀(r:List Tr) (k f:Nat),bH cnt nx r n .tm k ->bH cnt nx r n .tm f:=by
    intro r
    induction r with
    |nil=>intros;trivial
    |cons y r z=>
     intro k f q;refine⟨?_,z _ _ q.2⟩;have:=q.1
     rwa [show nx Md.tm n k=nx Md.tm n f from rfl]at this
   exact λf=>this r _ f h4
  simp only[wK,wT,j,true_or,if_true,cK];rw[CF one r n nb (k+1) d _ (u _) h2];simp[rows,row]
theorem xq{n:Nd}{s:Md}:∀{r:List Tr} {k:Nat} (d:Nat),bH cnt nx r n s k ->bH cnt nx r n s d
 |[],_,_,_=>trivial
 |y::r,k,d,q=>by
  refine⟨?_,xq (r:=r) _ q.2⟩;have:=q.1;cases s<;>exact this
theorem oK{x:Tr}{r:List Tr}(h:eV' (x::r)=true):gF' x=true/\eV' r=true:=by simpa[eV']using h
theorem Ok.kids{n:Nd}{ks:List Tr}{s:Md}(h:Ok s (.mk n ks)):cnt s n=some ks.length/\bH cnt nx ks n s 0/\eV' ks=true:=by
 obtain⟨⟨f,g⟩,d⟩:=h;refine⟨f,g,?_⟩;simp only[gF',Bool.and_eq_true]at d;exact d.2
theorem kt{n:Nd}{s:Md}{x:Tr}{r:List Tr}{k:Nat}(h:bH cnt nx (x::r) n s k)(hi:eV' (x::r)=true):Ok (nx s n 0) x/\bH cnt nx r n s k/\eV' r=true:=by
 have d:=h.1;rw[show nx s n k=nx s n 0 by cases s<;>rfl]at d;exact⟨⟨d,(oK hi).1⟩,xq _ h.2,(oK hi).2⟩
end Tm
