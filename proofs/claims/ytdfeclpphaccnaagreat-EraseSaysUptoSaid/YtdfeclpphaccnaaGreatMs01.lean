import Derived.WalkKit
import Derived.OrdersHeld
import Derived.RowKit
import Derived.Below
import Derived.Deep.Quiet
import Derived.StillTail
import Derived.Maps.AppendAt
import Derived.Laws.CopyRow
set_option linter.all false
set_option maxHeartbeats 4000000
noncomputable section
theorem Uo{p:Prop}(h:p:=by omega):p:=h
theorem UO{p:Prop}(h:p:=by decide):p:=h
theorem Ud{p:Prop}(h:p:=by simp):p:=h
theorem UD{p:Prop}(h:p:=by kernel_rfl):p:=h
theorem Us{p:Prop}(h:p:=by (simp only;omega)):p:=h
theorem Uk{p:Prop}(h:p:=by (simp;omega)):p:=h
namespace Go.Wx
def Cb(l:List Nat):Nat ->Nat ->List Bool
 |0,_=>[]
 |n+1,i=>(!l.elem i)::Cb l n (i+1)
def mB(n:Nat)(l:List Nat):Array Bool:=(Cb l n 0).toArray
def mR(n a:Nat):Array Bool:=mB n (List.range' a (n-a))
abbrev rg(a n:Nat):List Nat:=List.range' a n
structure St where
 e:List (Nat×Value)
 d:List Deferred
def get(l:List (Nat×Value)):Nat ->Option Value:=
 List.rec (motive:=λ_=>Nat ->Option Value) (λ_=>none) (λp _ ih t=>Bool.rec (motive:=λ_=>Option Value) (ih t) (some p.2) (Nat.beq p.1 t)) l
theorem Cc(t:Nat):get [] t=none:=rfl
theorem eV(k:Nat)(v:Value)(r:List (Nat×Value))(t:Nat):get ((k,v)::r) t=(match Nat.beq k t with
  |true=>some v
  |false=>get r t):=by
 show Bool.rec (motive:=λ_=>Option Value) (get r t) (some v) (Nat.beq k t)=_;cases Nat.beq k t<;>rfl
structure Fr(n:Nat)(a:Act)(s:St):Prop where
 size:a.tmps.size=n
 defers:a.defers=s.d
 has:∀t v,get s.e t=some v ->a.tmps[t]?=some v
def ev(e:List (Nat×Value)):Operand ->Option Value
 | .tmp t=>get e t
 | .const v=>some v
 | .global g=>some (.pointer (some ⟨g,0,none⟩))
 | .func f=>some (.func (.func f) #[] #[])
def wv(e:List (Nat×Value))(x:Operand)(k:Value ->Prop):Prop:=
 match ev e x with
 |some v=>k v
 |none=>False
def wvs(e:List (Nat×Value))(l:List Operand):(List Value ->Prop) ->Prop:=
 List.rec (motive:=λ_=>(List Value ->Prop) ->Prop) (λk=>k []) (λx _ ih k=>wv e x λv=>ih λvs=>k (v::vs)) l
def wvo(e:List (Nat×Value)):Option Operand ->(Option Value ->Prop) ->Prop
 |none,k=>k none
 |some x,k=>wv e x λv=>k (some v)
def wvp(e:List (Nat×Value))(l:List (Nat×Operand)):(List (Nat×Value) ->Prop) ->Prop:=
 List.rec (motive:=λ_=>(List (Nat×Value) ->Prop) ->Prop) (λk=>k []) (λp _ ih k=>wv e p.2 λv=>ih λvs=>k ((p.1,v)::vs)) l
def put(n:Nat)(s:St)(dst:Option Nat)(v:Value)(k:St ->Prop):Prop:=
 match dst with
 |none=>k s
 |some t=>match Nat.ble (t+1) n with
  |true=>match s with
   |⟨e,d⟩=>k ⟨(t,v)::e,d⟩
  |false=>False
def H4(A B:Prop)(c:Bool):Prop:=Bool.rec (motive:=λ_=>Prop) B A c
abbrev Br(c:Bool)(A B:Prop):Prop:=H4 A B c
@[irreducible] def EvRun (P:Program) (m:Sem Value) (w:World) (k:Value ->World ->Prop):Prop:=∃v w',m.run P w= .ok v w'/\k v w'
@[irreducible] def EvRunU (P:Program) (m:Sem Unit) (w:World) (k:World ->Prop):Prop:=∃w',m.run P w= .ok () w'/\k w'
@[irreducible] def EvInt (j:IntKind) (r:Int) (k:Value ->Prop):Prop:=∃v,v=Value.int j (j.wrap r)/\k v
theorem EvInt.elim{j:IntKind}{r:Int}{k:Value ->Prop}(h:EvInt j r k):k (.int j (j.wrap r)):=by
 unfold EvInt at h;obtain⟨v,rfl,h⟩:=h;exact h
def dM (P : Program) (f : FuncId) : Prop := ∃ fn, P.funcs[f]? = some fn /\ fn.body.isNone = false /\ (fn.name == "runtime.NumGoroutine") = false
def Ce(k:Value ->World ->Prop)(kp:List PanicEntry ->World ->Prop):Ending ->World ->Prop
 | .returned v,w=>k v w
 | .panicked ch,w=>kp ch w
 | .outgrown,_=>False
@[irreducible] def EvCall (P:Program) (f:FuncId) (args:Array Value) (w:World) (k:Value ->World ->Prop) (kp:List PanicEntry ->World ->Prop):Prop:=
 dM P f/\Calls P f args w (Ce k kp)
@[irreducible] def EvLd (w:World) (a:Addr) (k:Value ->Prop):Prop:=∃v,w.cell? a=some v/\k v
@[irreducible] def EvLdN (w:World) (a:Addr) (n:Nat) (k:Value ->Prop):Prop:=∃cs:List Value,cs.length=n/\(∀j v,cs[j]?=some v ->w.cell? (a.add j)=some v)/\k (.agg cs.toArray)
@[irreducible] def EvFill (o:Option (List Value)) (k:List Value ->Prop):Prop:=∃cs,o=some cs/\k cs
@[irreducible] def EvNew (w:World) (T:TypeId) (cs:List Value) (k:Nat ->World ->Prop):Prop:=∃b w',(b=w.heap.size/\w'=w.alloc (.cells cs.toArray T))/\k b w'
theorem EvNew.elim{w:World}{T:TypeId}{cs:List Value}{k:Nat ->World ->Prop}(h:EvNew w T cs k):k w.heap.size (w.alloc (.cells cs.toArray T)):=by
 unfold EvNew at h;obtain⟨b,w',⟨rfl,rfl⟩,h⟩:=h;exact h
@[irreducible] def EvSt (w:World) (a:Addr) (v:Value) (k:World ->Prop):Prop:=(∃u,w.cell? a=some u)/\w.frozen? a=false/\v.oneCell'=true/\k (w.setCell a v)
@[irreducible] def EvIx (a:Option Addr) (len sz:Nat) (i:Int) (k:Addr ->Prop):Prop:=∃ad,a=some ad/\0<=i/\i<len/\k (ad.add (i.toNat*sz))
structure Tau where
 tab:List (Nat×List (Nat×Nat×Bool)×List Nat)
 ones:List (Nat×Nat)
 slcs:List (Nat×Nat×Nat×Nat)
def zc:Nat ->Value
 |0=>.int .i64 0
 |1=>.bool false
 |2=>.slice none 0 0
 |3=>.pointer none
 |4=>.map none
 |5=>.nilFunc
 |6=>.int .u32 0
 |7=>.int .u8 0
 |8=>.nilIface
 |9=>.string .empty
 |10=>.int .u16 0
 |11=>.int .u64 0
 |_=>.int .i32 0
def zeq:Nat ->Value ->Bool
 |0,.int .i64 n=>n==0
 |1,.bool b=>!b
 |2,.slice none 0 0=>true
 |3,.pointer none=>true
 |4,.map none=>true
 |5,.nilFunc=>true
 |6,.int .u32 n=>n==0
 |7,.int .u8 n=>n==0
 |8,.nilIface=>true
 |9,.string s=>s.data.toList.isEmpty
 |10,.int .u16 n=>n==0
 |11,.int .u64 n=>n==0
 |12,.int .i32 n=>n==0
 |_,_=>false
def kQ':Nat ->Option IntKind
 |0=>some .i64
 |6=>some .u32
 |7=>some .u8
 |10=>some .u16
 |11=>some .u64
 |12=>some .i32
 |_=>none
def look{α:Type}(l:List (Nat×α)):Nat ->Option α:=
 List.rec (motive:=λ_=>Nat ->Option α) (λ_=>none) (λp _ ih t=>Bool.rec (motive:=λ_=>Option α) (ih t) (some p.2) (Nat.beq p.1 t)) l
theorem look_nil{α:Type}(t:Nat):look (α:=α) [] t=none:=rfl
theorem cI{α:Type}(k:Nat)(v:α)(r:List (Nat×α))(t:Nat):look ((k,v)::r) t=(match Nat.beq k t with
  |true=>some v
  |false=>look r t):=by
 show Bool.rec (motive:=λ_=>Option α) (look r t) (some v) (Nat.beq k t)=_;cases Nat.beq k t<;>rfl
def fh{α:Type}(l:List α):Nat ->Option α:=
 List.rec (motive:=λ_=>Nat ->Option α) (λ_=>none) (λx _ ih i=>Bool.rec (motive:=λ_=>Option α) (ih (Nat.pred i)) (some x) (Nat.beq i 0)) l
def Tau.zero(τ:Tau)(T:Nat):Option (List Value):=
 match look τ.tab T with
 |some (_,z)=>some (z.map zc)
 |none=>match look τ.ones T with
  |some c=>some [zc c]
  |none=>none
def lay:List Value ->Nat ->List Value ->List Value
 |cs,_,[]=>cs
 |cs,o,v::r=>lay (cs.set o v) (o+1) r
def my(place:Nat ->Option (Nat×Nat)):List Value ->List (Nat×Value) ->Option (List Value)
 |cs,[]=>some cs
 |cs,(i,v)::r=>match place i with
  |none=>none
  |some (o,sz)=>match Nat.beq v.cells.toList.length sz,Nat.ble (o+sz) cs.length with
   |true,true=>my place (lay cs o v.cells.toList) r
   |_,_=>none
def ro(fs:List (Nat×Nat×Bool))(i:Nat):Option (Nat×Nat):=
 match fh fs i with
 |some (o,sz,_)=>some (o,sz)
 |none=>none
def gU(z:List Value):Nat ->List Value
 |0=>[]
 |n+1=>z++gU z n
def mR':IntKind ->IntKind ->Bool
 | .i64,.i64=>true
 | .u8,.u8=>true
 | .u16,.u16=>true
 | .u32,.u32=>true
 | .u64,.u64=>true
 | .i32,.i32=>true
 | .i16,.i16=>true
 | .i8,.i8=>true
 |_,_=>false
def gg(P:Program)(τ:Tau)(op:BinOp)(T:TypeId)(x y:Operand)(a b:Value)(w:World)(k:Value ->World ->Prop):Prop:=
 match a,b with
 | .int j m,.int j' n=>match mR' j j' with
  |false=>EvRun P (binOp op T (.int j m) (.int j' n)) w k
  |true=>match op with
   | .add=>EvInt j (m+n) λv=>k v w
   | .sub=>EvInt j (m-n) λv=>k v w
   | .mul=>EvInt j (m*n) λv=>k v w
   | .eql=>k (.bool (decide (m=n))) w
   | .neq=>k (.bool (decide (m≠n))) w
   | .lss=>k (.bool (decide (m<n))) w
   | .leq=>k (.bool (decide (m<=n))) w
   | .gtr=>k (.bool (decide (n<m))) w
   | .geq=>k (.bool (decide (n<=m))) w
   |op=>EvRun P (binOp op T (.int j m) (.int j' n)) w k
 | .bool m,.bool n=>match look τ.ones T with
  |some 1=>match op with
   | .eql=>k (.bool (m==n)) w
   | .neq=>k (.bool (m !=n)) w
   |_=>False
  |_=>False
 |a,b=>EvRun P (do eqGuard op T x y a b;binOp op T a b) w k
def tL(P:Program)(op:UnOp)(a:Value)(w:World)(k:Value ->World ->Prop):Prop:=
 match op,a with
 | .not,.bool b=>k (.bool (!b)) w
 | .neg,.int j m=>EvInt j (0-m) λv=>k v w
 |op,a=>EvRun P (Op.unary op a) w k
def tM(P:Program)(f:Value)(args:List Value)(w:World)(k:Value ->World ->Prop)(kp:List PanicEntry ->World ->Prop):Prop:=
 match f with
 | .func (.func g) first captured=>EvCall P g (first++args.toArray++captured) w k kp
 |_=>False
def aV(P:Program)(τ:Tau)(n:Nat)(o:Oper)(s:St)(w:World)(k:St ->World ->Prop)(kp:List PanicEntry ->St ->World ->Prop):Prop:=
 let fin:Value ->World ->Prop:=λv w'=>put n s o.dst v λs'=>k s' w'
 match o.op with
 | .move x=>wv s.e x λv=>fin v w
 | .assign x=>wv s.e x λv=>fin v w
 | .pick c a b=>wv s.e c λvc=>match vc with
  | .bool t=>Br t (wv s.e a λv=>fin v w) (wv s.e b λv=>fin v w)
  |_=>False
 | .alloc T=>match τ.zero T with
  |some z=>EvNew w T z λb w'=>fin (.pointer (some ⟨b,0,none⟩)) w'
  |none=>EvRun P (Instr.alloc T true (.tuple #[])) w fin
 | .box T x=>wv s.e x λv=>EvNew w T v.cells.toList λb w'=>fin (.pointer (some ⟨b,0,none⟩)) w'
 | .build T ps=>wvp s.e ps.toList λvs=>match look τ.tab T with
  |some (fs,z)=>match my (ro fs) (z.map zc) vs with
   |some cs=>fin (.agg cs.toArray) w
   |none=>False
  |none=>EvRun P (Instr.build T vs.toArray) w fin
 | .buildSlice T len ps=>wvp s.e ps.toList λvs=>match look τ.slcs T with
  |some (e,sz,_)=>match τ.zero e with
   |some z=>match Nat.ble 1 sz,Nat.ble (len*sz) 16777216 with
    |true,true=>EvFill (my (λi=>some (i*sz,sz)) (gU z len) vs) λcs=>EvNew w e cs λb w'=>fin (.slice (some ⟨b,0,none⟩) len len) w'
    |_,_=>False
   |none=>EvRun P (Instr.buildSlice T len vs.toArray) w fin
  |none=>EvRun P (Instr.buildSlice T len vs.toArray) w fin
 | .load T x=>wv s.e x λv=>match v with
  | .pointer (some a)=>match look τ.tab T with
   |some (_,z)=>EvLdN w a z.length λu=>fin u w
   |none=>match look τ.ones T with
    |some _=>EvLd w a λu=>fin u w
    |none=>EvRun P (Instr.loadAt T v) w fin
  |_=>False
 | .store T x y=>wv s.e x λu=>wv s.e y λv=>match u with
  | .pointer (some a)=>match look τ.ones T with
   |some _=>EvSt w a v λw'=>fin undef w'
   |none=>match look τ.tab T,v with
    |some (_,z),.agg cs=>match Nat.beq cs.toList.length z.length with
     |true=>EvRunU P (storeCells a cs.toList) w λw'=>fin undef w'
     |false=>False
    |_,_=>EvRunU P (Instr.storeAt T u v) w λw'=>fin undef w'
  |_=>False
 | .binOp op T x y _=>wv s.e x λa=>wv s.e y λb=>gg P τ op T x y a b w fin
 | .unOp op _ x=>wv s.e x λa=>tL P op a w fin
 | .convert src dst x=>wv s.e x λv=>match v,look τ.ones src,look τ.ones dst with
  | .int _ m,some _,some c=>match kQ' c with
   |some j=>EvInt j m λu=>fin u w
   |none=>EvRun P (convert src dst v) w fin
  |_,_,_=>EvRun P (convert src dst v) w fin
 | .makeInterface T x=>wv s.e x λv=>EvRun P (Instr.makeInterface T v) w fin
 | .makeFunc fn first captured=>wvs s.e first.toList λus=>wvs s.e captured.toList λvs=>fin (.func fn us.toArray vs.toArray) w
 | .makeMap T none=>EvRun P (Instr.makeMap T none) w fin
 | .makeMap T (some r)=>wv s.e r λv=>EvRun P (Instr.makeMap T (some v)) w fin
 | .makeSlice T l c=>wv s.e l λu=>wv s.e c λv=>EvRun P (Instr.makeSlice T u v) w fin
 | .slice T x lo hi mx=>wv s.e x λv=>wvo s.e lo λl=>wvo s.e hi λh=>wvo s.e mx λm=>EvRun P (Instr.sliceAt T v l h m) w fin
 | .fieldAddr T x f=>wv s.e x λv=>match v,look τ.tab T with
  | .pointer (some a),some (fs,_)=>match fh fs f with
   |some (o,_,_)=>fin (.pointer (some (a.add o))) w
   |none=>False
  |_,_=>False
 | .field T x f=>wv s.e x λv=>match v,look τ.tab T with
  | .agg cs,some (fs,_)=>match fh fs f with
   |some (o,sz,true)=>fin (.agg ((cs.toList.drop o).take sz).toArray) w
   |some (o,_,false)=>match fh cs.toList o with
    |some u=>fin u w
    |none=>False
   |none=>False
  |_,_=>False
 | .indexAddr T x i=>wv s.e x λv=>wv s.e i λj=>match v,j,look τ.slcs T with
  | .slice a len _,.int _ m,some (_,sz,_)=>EvIx a len sz m λad=>fin (.pointer (some ad)) w
  |_,_,_=>EvRun P (Instr.indexAt T v j) w fin
 | .index T x i=>wv s.e x λv=>wv s.e i λj=>EvRun P (Instr.index T v j) w fin
 | .lookup T x i ok=>wv s.e x λv=>wv s.e i λj=>EvRun P (Instr.lookup T v j ok) w fin
 | .mapUpdate T m i x=>wv s.e m λu=>wv s.e i λj=>wv s.e x λv=>EvRunU P (Instr.mapUpdate T u j v) w λw'=>fin undef w'
 | .insert T m i x=>wv s.e m λu=>wv s.e i λj=>wv s.e x λv=>EvRunU P (Instr.mapUpdate T u j v) w λw'=>fin undef w'
 | .range T x=>wv s.e x λv=>EvRun P (Instr.range T v) w fin
 | .next x b=>wv s.e x λv=>EvRun P (Instr.next v b o.type) w fin
 | .entry x=>wv s.e x λv=>EvRun P (Instr.entry v) w fin
 | .typeAssert x T U ok=>wv s.e x λv=>EvRun P (Instr.typeAssert v T U ok) w fin
 | .extract x i=>wv s.e x λv=>match v with
  | .tuple vs=>match fh vs.toList i with
   |some u=>fin u w
   |none=>False
  |_=>False
 | .call c=>match c.callee with
  | .value f=>wv s.e f λg=>wvs s.e c.args.toList λvs=>tM P g vs w fin λch w'=>kp ch s w'
  | .builtin b=>wvs s.e c.args.toList λvs=>match b with
   | .len=>match vs,c.argTypes.toList with
    |[.slice _ m _],[T]=>match look τ.slcs T with
     |some _=>fin (.int .i64 m) w
     |none=>EvRun P (Builtin.len_ c.argTypes o.type vs.toArray) w fin
    |_,_=>EvRun P (Builtin.len_ c.argTypes o.type vs.toArray) w fin
   | .append=>EvRun P (Builtin.append_ c.argTypes o.type vs.toArray) w fin
   | .cap=>EvRun P (Builtin.cap_ c.argTypes o.type vs.toArray) w fin
   | .copy=>EvRun P (Builtin.copy_ c.argTypes o.type vs.toArray) w fin
   | .min=>EvRun P (Builtin.min_ c.argTypes o.type vs.toArray) w fin
   | .max=>EvRun P (Builtin.max_ c.argTypes o.type vs.toArray) w fin
   | .clear=>EvRun P (Builtin.clear_ c.argTypes o.type vs.toArray) w fin
   | .delete=>EvRun P (Builtin.delete_ c.argTypes o.type vs.toArray) w fin
   |_=>False
  |_=>False
 | .defer c=>match c.callee with
  | .value f=>wv s.e f λg=>wvs s.e c.args.toList λvs=>match g with
   | .func fn first captured=>match s with
    |⟨e,d⟩=>put n ⟨e,{target:=.fn fn captured,args:=first++vs.toArray}::d⟩ o.dst undef λs'=>k s' w
   |_=>False
  |_=>False
 | .nilCheck x=>wv s.e x λv=>match v with
  | .pointer (some a)=>fin (.pointer (some a)) w
  | .func (.func f) us vs=>fin (.func (.func f) us vs) w
  | .iface t u=>fin (.iface t u) w
  |_=>False
 | .panic x=>wv s.e x λv=>match v with
  | .iface t u=>kp [{v:=.iface t u,recovered:=false}] s w
  |_=>False
 |_=>False
def ly(all:List Oper)(j:Nat):Option Nat:=
 match fh all j with
 |some o=>o.dst
 |none=>none
def gh(P:Program)(τ:Tau)(n:Nat)(all:List Oper)(k:St ->World ->Prop)(kp:List PanicEntry ->St ->World ->Prop)(l:List Oper):St ->World ->Prop:=
 List.rec (motive:=λ_=>St ->World ->Prop) (λs w=>k s w) (λo _ ih s w=>match o.guard with
  |none=>aV P τ n o s w ih kp
  |some (j,want)=>match ly all j with
   |none=>False
   |some d=>match get s.e d with
    |some (.bool c)=>match s with
     |⟨e,ds⟩=>match want with
      |true=>Br c (aV P τ n o ⟨(d,.bool true)::e,ds⟩ w ih kp) (put n ⟨(d,.bool false)::e,ds⟩ o.dst undef λs'=>ih s' w)
      |false=>Br c (put n ⟨(d,.bool true)::e,ds⟩ o.dst undef λs'=>ih s' w) (aV P τ n o ⟨(d,.bool false)::e,ds⟩ w ih kp)
    |some (.tuple _)=>put n s o.dst undef λs'=>ih s' w
    |_=>False) l
theorem mz(P:Program)(τ:Tau)(n:Nat)(all:List Oper)(k:St ->World ->Prop)(kp:List PanicEntry ->St ->World ->Prop)(o:Oper)(f:List Oper)(s:St)(w:World):
  gh P τ n all k kp (o::f) s w=(match o.guard with
  |none=>aV P τ n o s w (gh P τ n all k kp f) kp
  |some (j,g)=>match ly all j with
   |none=>False
   |some d=>match get s.e d with
    |some (.bool c)=>match s with
     |⟨e,ds⟩=>match g with
      |true=>Br c (aV P τ n o ⟨(d,.bool true)::e,ds⟩ w (gh P τ n all k kp f) kp) (put n ⟨(d,.bool false)::e,ds⟩ o.dst undef λs'=>gh P τ n all k kp f s' w)
      |false=>Br c (put n ⟨(d,.bool true)::e,ds⟩ o.dst undef λs'=>gh P τ n all k kp f s' w) (aV P τ n o ⟨(d,.bool false)::e,ds⟩ w (gh P τ n all k kp f) kp)
    |some (.tuple _)=>put n s o.dst undef λs'=>gh P τ n all k kp f s' w
    |_=>False):=rfl
def lift(n:Nat)(K:Exit ->St ->World ->Prop):Exit ->Act ->World ->Prop:=λe a w=>∃s,Fr n a s/\K e s w
@[irreducible] def EvCode (P:Program) (n:Nat) (c:Code) (s:St) (w:World) (K:Exit ->St ->World ->Prop):Prop:=
 ∀a,Fr n a s ->c.wp P (lift n K) a w
def tN(k:St ->World ->Prop)(K:Exit ->St ->World ->Prop):Exit ->St ->World ->Prop
 | .normal,s,w=>k s w
 |e,s,w=>K e s w
def Cf(id:Nat)(K:Exit ->St ->World ->Prop):Exit ->St ->World ->Prop
 | .exit j,s,w=>match Nat.beq j id with
  |true=>K .normal s w
  |false=>K (.exit j) s w
 |e,s,w=>K e s w
def jV(P:Program)(τ:Tau)(n:Nat)(c:Code):St ->World ->(Exit ->St ->World ->Prop) ->Prop:=
 Code.rec (motive:=λ_=>St ->World ->(Exit ->St ->World ->Prop) ->Prop)
  (λs w K=>K .normal s w)
  (λid ops draw s w K=>Bool.rec (motive:=λ_=>Prop) (gh P τ n ops.toList (K .normal) (λch=>K (.panic ch)) ops.toList s w) (EvCode P n (.region id ops true) s w K) draw)
  (λ_ _ iha ihb s w K=>iha s w (tN (λs' w'=>ihb s' w' K) K))
  (λc _ _ iha ihb s w K=>wv s.e c λv=>match v with
   | .bool t=>Br t (iha s w K) (ihb s w K)
   |_=>False)
  (λid _ ih s w K=>ih s w (Cf id K))
  (λc _ s w K=>EvCode P n (.loop c) s w K)
  (λf ps x y _ _ s w K=>EvCode P n (.rangeFunc f ps x y) s w K)
  (λid s w K=>K (.exit id) s w)
  (λx _ s w K=>EvCode P n (.scope x) s w K)
  (λ_ s w K=>K .normal s w)
  (λl s w K=>EvCode P n (.goto l) s w K)
  (λs w K=>K .ret s w)
  (λm s w K=>EvCode P n (.refuse m) s w K) c
theorem Fr.eval{n:Nat}{a:Act}{s:St}(h:Fr n a s){x:Operand}{v:Value}(d:ev s.e x=some v):a.eval x=v:=by
 cases x with
 |tmp t=>
  have:=h.has t v d;simp[Act.eval,this]
 |const u=>simpa[ev,Act.eval]using d
 |global g=>simpa[ev,Act.eval]using d
 |func f=>simpa[ev,Act.eval]using d
theorem Fr.wv{n:Nat}{a:Act}{s:St}(h:Fr n a s){x:Operand}{k:Value ->Prop}(d:wv s.e x k):k (a.eval x):=by
 unfold Wx.wv at d;split at d
 ·rename_i v f;rw[h.eval f];exact d
 ·exact d.elim
theorem Fr.wvs{n:Nat}{a:Act}{s:St}(h:Fr n a s):∀(xs:List Operand) (k:List Value ->Prop),wvs s.e xs k ->k (xs.map a.eval)
 |[],k,d=>d
 |x::r,k,d=>by
  have h1:=h.wv d;exact Fr.wvs h r (λf=>k (a.eval x::f)) h1
theorem Fr.wvp{n:Nat}{a:Act}{s:St}(h:Fr n a s):∀(xs:List (Nat×Operand)) (k:List (Nat×Value) ->Prop),wvp s.e xs k ->k (xs.map λp=>(p.1,a.eval p.2))
 |[],k,d=>d
 |(i,x)::r,k,d=>by
  have h1:=h.wv d;exact Fr.wvp h r (λf=>k ((i,a.eval x)::f)) h1
theorem Fr.wvo{n:Nat}{a:Act}{s:St}(h:Fr n a s){x:Option Operand}{k:Option Value ->Prop}(d:wvo s.e x k):k (x.map a.eval):=by
 cases x with
 |none=>exact d
 |some y=>exact h.wv d
theorem Fr.cons{n:Nat}{a:Act}{s:St}(h:Fr n a s){d:Nat}{v:Value}(m:d<n):Fr n (a.put (some d) v) ⟨(d,v)::s.e,s.d⟩:=by
 refine⟨by simp[Act.put,h.size],by simp[Act.put,h.defers],λt u f=>?_⟩;simp only[eV]at f;have i:=h.size;cases g:Nat.beq d t with
 |true=>
  rw[g]at f;have e:=Nat.eq_of_beq_eq_true g;subst e;have:v=u:=by simpa using f
  subst this;simp[Act.put,i,m]
 |false=>
  rw[g]at f;have j:d≠t:=λe=>by subst e;simp at g
  have:=h.has t u f;simp[Act.put,Array.getElem?_setIfInBounds_ne j,this]
theorem Fr.put{n:Nat}{a:Act}{s:St}(h:Fr n a s){dst:Option Nat}{v:Value}{k:St ->Prop}(f:put n s dst v k):∃s',Fr n (a.put dst v) s'/\k s':=by
 unfold Wx.put at f;cases dst with
 |none=>exact⟨s,h,f⟩
 |some d=>
  simp only at f;split at f
  ·rename_i g
   exact⟨_,h.cons (Nat.le_of_ble_eq_true g),f⟩
  ·exact f.elim
theorem Fr.again{n:Nat}{a:Act}{s:St}(h:Fr n a s){d:Nat}{v:Value}(i:get s.e d=some v):Fr n a ⟨(d,v)::s.e,s.d⟩:=by
 refine⟨h.size,h.defers,λt u f=>?_⟩;simp only[eV]at f;cases g:Nat.beq d t with
 |true=>
  rw[g]at f;have e:=Nat.eq_of_beq_eq_true g;subst e;have:v=u:=by simpa using f
  subst this;exact h.has _ _ i
 |false=>rw[g]at f;exact h.has t u f
theorem gA{α:Type}:∀(l:List α) (i:Nat),fh l i=l[i]?
 |[],i=>by simp[fh]
 |x::r,0=>rfl
 |x::r,j+1=>by
  have:fh (x::r) (j+1)=fh r j:=rfl;rw[this,gA r j];simp
theorem Cg{j k:IntKind}(h:mR' j k=true):j=k:=by cases j<;>cases k<;>first|rfl|(simp[mR']at h)
def jz':TypeDesc ->Bool
 | .struct _=>false
 | .array _ _=>false
 |_=>true
def tO(P:Program)(T:TypeId):Bool:=match P.underlying T with
 |some d=>!jz' d
 |none=>false
structure aS(P:Program)(τ:Tau):Prop where
 tab:∀T fs z,look τ.tab T=some (fs,z) ->∃gs:Array Field,P.underlying T=some (.struct gs)/\gs.toList.map (λf=>(f.offset,P.cellsOf f.type,tO P f.type))=fs/\(∀f∈gs.toList,(∃d,P.underlying f.type=some d)/\∃i,P.info? f.type=some i/\i.size≠0)/\
  ∃i,P.info? T=some i/\i.size=z.length/\i.zero=some (.agg (z.map zc).toArray)
 ones:∀T c,look τ.ones T=some c ->∃d i,P.underlying T=some d/\jz' d=true/\P.info? T=some i/\i.size=1/\i.zero=some (zc c)/\(zc c).oneCell'=true/\(c=1 ->d= .bool)/\∀j,kQ' c=some j ->d= .int j
 slcs:∀T e sz bs,look τ.slcs T=some (e,sz,bs) ->P.underlying T=some (.slice e)/\∃i,P.info? e=some i/\i.size=sz/\i.bytes=bs
 mixed:P.follows .mixedOrders=true
theorem dj{α:Type}:∀{l:List (Nat×α)} {t:Nat} {v:α},look l t=some v ->(t,v)∈l
 |[],t,v,h=>by simp[look_nil]at h
 |(k,u)::r,t,v,h=>by
  simp only[cI]at h;cases hb:Nat.beq k t with
  |true=>
   rw[hb]at h;have e:=Nat.eq_of_beq_eq_true hb;subst e;have:u=v:=by simpa using h
   subst this;simp
  |false=>rw[hb]at h;exact List.mem_cons_of_mem _ (dj h)
theorem Ch{c:Nat}{v:Value}(h:zeq c v=true):v=zc c:=by
 unfold zeq at h;split at h
 all_goals first
  |rfl
  |(simp at h;subst h;rfl)
  |skip
 ·rename_i s
  have:s=ByteArray.empty:=by
   have f:s.data.toList=[]:=by simpa using h
   have d:s.data= #[]:=Array.ext' (by simpa using f);cases s;simp only at d;subst d
   rfl
  subst this
  rfl
 ·cases h
def CZ':List Nat ->List Value ->Bool
 |[],[]=>true
 |c::r,v::t=>zeq c v && CZ' r t
 |_,_=>false
theorem sx':∀{z:List Nat} {vs:List Value},CZ' z vs=true ->vs=z.map zc
 |[],[],_=>rfl
 |c::r,v::t,h=>by
  simp only[CZ',Bool.and_eq_true]at h;simp[Ch h.1,sx' h.2]
 |[],_::_,h=>by simp[CZ']at h
 |_::_,[],h=>by simp[CZ']at h
def Dt':TypeDesc ->IntKind ->Bool
 | .int j,k=>mR' j k
 |_,_=>false
def Ci(P:Program)(x:Nat×List (Nat×Nat×Bool)×List Nat):Bool:=
 match P.underlying x.1,P.info? x.1 with
 |some (.struct gs),some i=>(gs.toList.map (λf=>(f.offset,P.cellsOf f.type,tO P f.type))==x.2.1) &&
  gs.toList.all (λf=>(P.underlying f.type).isSome && (match P.info? f.type with|some j=>j.size !=0|none=>false)) &&
  (i.size==x.2.2.length) && (match i.zero with|some (.agg cs)=>CZ' x.2.2 cs.toList|_=>false)
 |_,_=>false
def Cj(P:Program)(x:Nat×Nat):Bool:=
 match P.underlying x.1,P.info? x.1 with
 |some d,some i=>jz' d && (i.size==1) && (match i.zero with|some v=>zeq x.2 v && v.oneCell'|none=>false) &&
  (match x.2 with|1=>(match d with| .bool=>true|_=>false)|_=>true) && (match kQ' x.2 with|some k=>Dt' d k|none=>true)
 |_,_=>false
def Ck(P:Program)(x:Nat×Nat×Nat×Nat):Bool:=
 match P.underlying x.1,P.info? x.2.1 with
 |some (.slice e),some i=>(e==x.2.1) && (i.size==x.2.2.1) && (i.bytes==x.2.2.2)
 |_,_=>false
def Cm(P:Program)(τ:Tau):Bool:=τ.tab.all (Ci P) && τ.ones.all (Cj P) && τ.slcs.all (Ck P) && P.follows .mixedOrders
theorem H5{P:Program}{τ:Tau}(h:Cm P τ=true):aS P τ:=by
 simp only[Cm,Bool.and_eq_true,List.all_eq_true]at h;obtain⟨⟨⟨L,M⟩,N⟩,O⟩:=h;refine⟨λT fs z r=>?_,λT c r=>?_,λT e sz bs r=>?_,O⟩
 ·have:=L _ (dj r)
  unfold Ci at this;split at this
  ·rename_i Q i u B
   simp only[Bool.and_eq_true,List.all_eq_true,beq_iff_eq]at this;obtain⟨⟨⟨D,E⟩,g⟩,m⟩:=this;refine⟨Q,u,D,λf U=>?_,i,B,g,?_⟩
   ·have:=E f U
    obtain⟨V,H⟩:=this;refine⟨Option.isSome_iff_exists.1 V,?_⟩;split at H
    ·rename_i j I;exact⟨j,I,by simpa using H⟩
    ·cases H
   ·split at m
    ·rename_i cs W
     have:=sx' m;rw[W]
     congr 2
     exact Array.ext' (by simpa using this)
    ·cases m
  ·cases this
 ·have:=M _ (dj r)
  unfold Cj at this;split at this
  ·rename_i d i u B
   simp only[Bool.and_eq_true,beq_iff_eq]at this;obtain⟨⟨⟨⟨D,E⟩,g⟩,m⟩,F⟩:=this;split at g
   ·rename_i v Y
    simp only[Bool.and_eq_true]at g;have e:=Ch g.1;subst e;refine⟨d,i,u,D,B,E,Y,g.2,λZ=>?_,λj I=>?_⟩
    ·subst Z
     simp only at m;cases d<;>first|rfl|cases m
    ·simp only[I]at F
     unfold Dt' at F;split at F
     ·rw[Cg F]
     ·cases F
   ·cases g
  ·cases this
 ·have:=N _ (dj r)
  unfold Ck at this;split at this
  ·rename_i e' i u B
   simp only[Bool.and_eq_true,beq_iff_eq]at this;obtain⟨⟨D,E⟩,g⟩:=this;subst D;exact⟨u,i,B,E,g⟩
  ·cases this
theorem mA{P:Program}{τ:Tau}(hτ:aS P τ){T:Nat}{z:List Value}(h:τ.zero T=some z):∃i v,P.info? T=some i/\i.zero=some v/\v.cells=z.toArray/\i.size=z.length:=by
 unfold Tau.zero at h;split at h
 ·rename_i r u B
  obtain⟨H,D,E,m,i,g,f,j⟩:=hτ.tab T r u B;simp only[Option.some.injEq]at h;subst h;exact⟨i,_,g,j,by simp[Value.cells],by simp[f]⟩
 ·split at h
  ·rename_i c F
   obtain⟨d,i,D,I,g,f,j,L,_⟩:=hτ.ones T c F;simp only[Option.some.injEq]at h;subst h;refine⟨i,_,g,j,?_,by simp[f]⟩;cases M:zc c<;>simp_all [Value.cells,Value.oneCell']
  ·cases h
section
variable{P:Program}{τ:Tau}{n:Nat}{o:Oper}{a:Act}{s:St}{w:World}
theorem cY{next:Act ->World ->Prop}{Q:Exit ->Act ->World ->Prop}{m:Sem Value}{k:St ->World ->Prop}
  (he:execOp a.eval o=(do pure (.value (<- m)))) (g:Fr n a s) (h:EvRun P m w λv w'=>put n s o.dst v λs'=>k s' w')
  (i:∀s' w' f,Fr n f s' ->k s' w' ->next f w'):o.wp P a w next Q:=by
 unfold EvRun at h;obtain⟨v,w',j,r⟩:=h;obtain⟨s',d,hs⟩:=g.put r;unfold Oper.wp;rw[he];have:(do pure (Next.value (<- m)):Sem Next).run P w= .ok (.value v) w':=by simp[j]
 rw[this];exact i _ _ _ d hs
theorem xq{next:Act ->World ->Prop}{Q:Exit ->Act ->World ->Prop}{m:Sem Unit}{k:St ->World ->Prop}
  (he:execOp a.eval o=(do m;pure .skip)) (g:Fr n a s) (h:EvRunU P m w λw'=>put n s o.dst undef λs'=>k s' w')
  (i:∀s' w' f,Fr n f s' ->k s' w' ->next f w'):o.wp P a w next Q:=by
 unfold EvRunU at h;obtain⟨w',j,r⟩:=h;obtain⟨s',d,hs⟩:=g.put r;unfold Oper.wp;rw[he];have:(do m;pure Next.skip:Sem Next).run P w= .ok .skip w':=by simp[j]
 rw[this];exact i _ _ _ d hs
theorem jA{next:Act ->World ->Prop}{Q:Exit ->Act ->World ->Prop}{v:Value}{k:St ->World ->Prop}
  (he:(execOp a.eval o).run P w= .ok (.value v) w) (g:Fr n a s) (h:put n s o.dst v λs'=>k s' w)
  (i:∀s' w' f,Fr n f s' ->k s' w' ->next f w'):o.wp P a w next Q:=by
 obtain⟨s',d,hs⟩:=g.put h;unfold Oper.wp;rw[he];exact i _ _ _ d hs
theorem br_cases{c:Bool}{A B:Prop}(h:Br c A B):(c=true/\A) \/(c=false/\B):=by
 cases c
 ·exact .inr ⟨rfl,h⟩
 ·exact .inl ⟨rfl,h⟩
theorem Co{f:FuncId}{args:Array Value}(h:dM P f):(callFunc f args).run P w= .ok (.enter f args) w:=by
 obtain ⟨i, m, j, r⟩ := h;have d : ¬ i.name = "runtime.NumGoroutine" := by simpa using r
 have g:¬ i.body=none:=by intro e;rw[e]at j;cases j
 simp[callFunc,m,g,d]
theorem xr(op:BinOp)(T:TypeId)(x y:Operand)(j k:IntKind)(m l:Int):(eqGuard op T x y (.int j m) (.int k l)).run P w= .ok () w:=by
 cases op<;>simp[eqGuard]
theorem Cp(op:BinOp)(T:TypeId)(x y:Operand)(m l:Bool):(eqGuard op T x y (.bool m) (.bool l)).run P w= .ok () w:=by
 cases op<;>simp[eqGuard]
theorem H6(hτ:aS P τ){op:BinOp}{T:TypeId}{x y:Operand}{u v:Value}{k:Value ->World ->Prop}(h:gg P τ op T x y u v w k):
  EvRun P (do eqGuard op T x y u v;binOp op T u v) w k:=by
 unfold gg at h;split at h
 ·rename_i j m z l
  split at h
  ·unfold EvRun at h ⊢
   obtain⟨v,w',f,g⟩:=h;exact⟨v,w',by simp[xr,f],g⟩
  ·rename_i hs
   have:=Cg hs;subst this;split at h
   all_goals (try replace h:=EvInt.elim h)
   all_goals (try unfold EvRun at h)
   all_goals unfold EvRun
   case h_10=>
    obtain⟨v,w',f,g⟩:=h;exact⟨v,w',by simp[xr,f],g⟩
   all_goals (refine⟨_,w,?_,h⟩;simp[xr,binOp,Op.intArith,Op.intCmp];try rfl)
   all_goals (by_cases e:m=l<;>simp[e])
 ·rename_i m l
  split at h
  ·rename_i hs
   obtain⟨d,_,i,_,_,_,_,_,r,_⟩:=hτ.ones T 1 hs;rw[r rfl]at i;unfold EvRun;split at h
   ·exact⟨_,w,by simp[Cp,run_eql_bool w T m l i],h⟩
   ·exact⟨_,w,by simp only[Sem.run_bind,Cp,Result.andThen_ok,run_neq_bool w T m l i];rfl,h⟩
   ·exact h.elim
  ·exact h.elim
 ·exact h
theorem H7{op:UnOp}{u:Value}{k:Value ->World ->Prop}(h:tL P op u w k):EvRun P (Op.unary op u) w k:=by
 unfold tL at h;split at h
 ·unfold EvRun;exact⟨_,w,by simp[Op.unary],h⟩
 ·replace h:=EvInt.elim h;unfold EvRun;exact⟨_,w,by simp[Op.unary,Op.intArith],h⟩
 ·exact h
theorem mS':∀(vs:List Value) (cs:List Value) (o j:Nat),(vs.zipIdx j).foldl (λ(cs:Array Value) (p:Value×Nat)=>cs.setIfInBounds (o+p.2) p.1) cs.toArray=(lay cs (o+j) vs).toArray
 |[],cs,o,j=>by simp[lay]
 |v::r,cs,o,j=>by
  simp only[List.zipIdx_cons,List.foldl_cons,lay];have:=mS' r (cs.set (o+j) v) o (j+1);rw[show o+j+1=o+(j+1) by omega];rw[<- this];simp
theorem xt{d:Nat ->Option (Nat×Nat)}:∀(vs:List (Nat×Value)) (cs out:List Value),my d cs vs=some out ->
  Instr.fill d cs.toArray vs=some out.toArray
 |[],cs,out,h=>by
  simp only[my,Option.some.injEq]at h;subst h;simp[Instr.fill]
 |(i,v)::r,cs,out,h=>by
  simp only[my]at h;simp only[Instr.fill];cases f:d i with
  |none=>rw[f]at h;simp at h
  |some q=>
   obtain⟨off,sz⟩:=q;rw[f]at h;simp only at h ⊢;split at h
   ·rename_i j m
    have u:=Nat.eq_of_beq_eq_true j;have B:=Nat.le_of_ble_eq_true m;have z:v.cells.size=sz:=by simpa using u
    rw[if_neg (by simp[z];omega)];have g:=mS' v.cells.toList cs off 0;have:=xt r (lay cs off v.cells.toList) out h;rw[<- this]
    congr 1
    rw[Nat.add_zero]at g;rw[<- g,<- Array.foldl_toList];simp[Array.toList_zipIdx]
   ·cases h
theorem Cq(z:List Value):∀n,(gU z n).length=n*z.length
 |0=>by simp[gU]
 |n+1=>by simp only[gU,List.length_append,Cq z n,Nat.succ_mul];omega
theorem Cr(z:List Value)(d:0<z.length):∀n i,i<n*z.length ->(gU z n)[i]?=z[i%z.length]?
 |0,i,h=>Uo
 |n+1,i,h=>by
  simp only[gU];rcases Nat.lt_or_ge i z.length with hi|hi
  ·rw[List.getElem?_append_left hi,Nat.mod_eq_of_lt hi]
  ·rw[List.getElem?_append_right hi,Cr z d n (i-z.length) (by rw[Nat.succ_mul]at h;omega)]
   rw[Nat.mod_eq_sub_mod hi]
theorem Cs(z:List Value)(n:Nat)(f:0<z.length):((Array.range (n*z.length)).map (z.toArray[· %z.toArray.size]!))=(gU z n).toArray:=by
 apply Array.ext';apply List.ext_getElem?;intro i;simp only[Array.toList_map,Array.toList_range,List.getElem?_map];rcases Nat.lt_or_ge i (n*z.length)with d|d
 ·rw[Cr z f n i d]
  have g:i%z.length<z.length:=Nat.mod_lt _ f;simp[d,g]
 ·rw[List.getElem?_eq_none (by simpa using d),List.getElem?_eq_none (by rw[Cq];exact d)]
  rfl
theorem rq(a:Act)(xs:Array Operand):xs.map a.eval=(xs.toList.map a.eval).toArray:=Array.ext' Ud
theorem H8(hτ:aS P τ){k:St ->World ->Prop}{kp:List PanicEntry ->St ->World ->Prop}{next:Act ->World ->Prop}{Q:Exit ->Act ->World ->Prop}
  (D:Fr n a s) (h:aV P τ n o s w k kp) (H:∀s' w' a',Fr n a' s' ->k s' w' ->next a' w')
  (hp:∀ch s' w' a',Fr n a' s' ->kp ch s' w' ->Q (.panic ch) a' w'):o.wp P a w next Q:=by
 cases E:o.op<;>simp only[aV,E]at h
 case move x=>exact jA (by simp[execOp,E]) D (D.wv h) H
 case assign x=>exact jA (by simp[execOp,E]) D (D.wv h) H
 case pick c x y=>
  have B:=D.wv h;split at B
  ·rename_i t ht
   rcases br_cases B with ⟨e,h2⟩|⟨e,h2⟩
   ·subst e;exact jA (by simp[execOp,E,ht,asBool]) D (D.wv h2) H
   ·subst e;exact jA (by simp[execOp,E,ht,asBool]) D (D.wv h2) H
  ·exact B.elim
 case alloc T=>
  split at h
  ·rename_i z hz
   obtain⟨i,v,hi,hv,M,_⟩:=mA hτ hz
   replace h:=EvNew.elim h
   refine cY (m:=Instr.alloc T true (.tuple #[])) (by simp[execOp,E]) D ?_ H;unfold EvRun;refine⟨_,_,?_,h⟩;simp[Instr.alloc,zeroValue,typeInfo,hi,hv,newVar,newRow,M]
  ·exact cY (by simp[execOp,E]) D h H
 case box T x=>
  have B:=D.wv h
  replace B:=EvNew.elim B
  refine cY (m:=Instr.box T (a.eval x)) (by simp[execOp,E]) D ?_ H;unfold EvRun;refine⟨_,_,?_,B⟩;simp[Instr.box,newVar,newRow]
 case build T ps=>
  have B:=D.wvp _ _ h;have hm:(ps.map λp=>(p.1,a.eval p.2))=(ps.toList.map λp=>(p.1,a.eval p.2)).toArray:=Array.ext' Ud;split at B
  ·rename_i fs z Z
   split at B
   ·rename_i cs M
    obtain⟨gs,V,a0,L,i,hi,_,hz⟩:=hτ.tab T fs z Z;refine jA (v:=.agg cs.toArray) ?_ D B H;have a4:∀(l:List Field),(∀f∈l,(∃d,P.underlying f.type=some d)/\∃i,P.info? f.type=some i/\i.size≠0) ->(l.mapM (m:=Sem) λf=>do pure (f.offset,<- sizeOf f.type)).run P w= .ok (l.map λf=>(f.offset,P.cellsOf f.type)) w:=by
     intro l
     induction l with
     |nil=>intro _;simp
     |cons f l ih=>
      intro hl;obtain⟨_,j,hj,_⟩:=hl f Ud;have:=ih λg Y=>hl g (by simp[Y]);have I:(sizeOf f.type).run P w= .ok (P.cellsOf f.type) w:=by simp[sizeOf,typeInfo,hj,Program.cellsOf]
      simp only[List.mapM_cons,Sem.run_bind,I,Result.andThen_ok,Sem.run_pure,this,List.map_cons]
    have b7:(gs.mapM (m:=Sem) λf=>do pure (f.offset,<- sizeOf f.type)).run P w= .ok (gs.toList.map λf=>(f.offset,P.cellsOf f.type)).toArray w:=by
     rw[Array.mapM_eq_mapM_toList];have:=a4 gs.toList L;simp only[bind_pure_comp]at this ⊢;simp[this]
    have b8:ro fs=λi=>(gs.toList.map λf=>(f.offset,P.cellsOf f.type)).toArray[i]?:=by
     funext i
     unfold ro;rw[gA,<- a0];simp only[List.getElem?_map,List.getElem?_toArray];cases gs.toList[i]?<;>rfl
    rw[b8]at M;have a8:=xt _ _ _ M;simp only[execOp,E,Instr.build,Sem.run_bind,zeroValue,typeInfo,run_program,Result.andThen_ok,hi,Sem.run_pure,hz,run_underlying V,b7];simp only[hm];simp only[Value.cells];rw[a8];simp
   ·exact B.elim
  ·rw[<- hm]at B
   exact cY (by simp[execOp,E]) D B H
 case buildSlice T len ps=>
  have B:=D.wvp _ _ h;have hm:(ps.map λp=>(p.1,a.eval p.2))=(ps.toList.map λp=>(p.1,a.eval p.2)).toArray:=Array.ext' Ud;split at B
  ·rename_i e sz bs hs
   obtain⟨V,i,hi,I,_⟩:=hτ.slcs T e sz bs hs;split at B
   ·rename_i z hz
    obtain⟨i',v,a9,hv,b9,b4⟩:=mA hτ hz;have:i'=i:=by rw[a9]at hi;simpa using hi
    subst this;split at B
    ·rename_i b' c2
     unfold EvFill at B;obtain⟨cs,M,B⟩:=B;have e1:=Nat.le_of_ble_eq_true b';have e2:=Nat.le_of_ble_eq_true c2
     replace B:=EvNew.elim B
     refine cY (m:=Instr.buildSlice T len (ps.map λp=>(p.1,a.eval p.2))) (by simp[execOp,E]) D ?_ H;unfold EvRun;refine⟨_,_,?_,B⟩;have W:=xt _ _ _ M;have b5:z.length=sz:=by rw[<- b4,I]
     have Z:=Cs z len Uo;rw[b5]at Z;have b0:(sizeOf e).run P w= .ok sz w:=by simp[sizeOf,typeInfo,a9,I]
     have b1:(zeroValue e).run P w= .ok v w:=by simp[zeroValue,typeInfo,a9,hv]
     have e9:z.toArray.size=sz:=by simp[b5]
     simp only[Instr.buildSlice,Sem.run_bind,run_underlying V,Result.andThen_ok,b0];rw[if_neg Uo]
     by_cases h0:len*sz=0
     ·have c3:len=0:=by
       rcases Nat.mul_eq_zero.1 h0 with h|h
       ·exact h
       ·omega
      subst c3;simp only[Nat.zero_mul,if_true,gU]at W ⊢;simp only[Sem.run_bind,Sem.run_pure,Result.andThen_ok];have:(Array.range 0).map (λx=>(#[]:Array Value)[x%(#[]:Array Value).size]!)= #[]:=Ud
      rw[this,hm];rw[W];simp[newRow]
     ·rw[Sem.run_ite,if_neg h0]
      simp only[Sem.run_bind,b1,Result.andThen_ok,Sem.run_pure,b9,Z,hm];rw[W];simp[newRow]
    ·exact B.elim
   ·rw[<- hm]at B
    exact cY (by simp[execOp,E]) D B H
  ·rw[<- hm]at B
   exact cY (by simp[execOp,E]) D B H
 case load T x=>
  have B:=D.wv h;split at B
  ·rename_i ad O
   refine cY (m:=Instr.loadAt T (a.eval x)) (by simp[execOp,E]) D ?_ H;rw[O];split at B
   ·rename_i fs z Z
    obtain⟨gs,V,a0,L,i,hi,I,hz⟩:=hτ.tab T fs z Z;unfold EvLdN at B;obtain⟨cs,hl,M,N⟩:=B;unfold EvRun;refine⟨_,w,?_,N⟩;have:=run_loadCells_list (P:=P) (w:=w) ad cs M;rw[hl]at this;simp[Instr.loadAt,Instr.sureAddr,loadVar,isAgg,run_underlying V,sizeOf,typeInfo,hi,I,this]
   ·split at B
    ·rename_i c M
     obtain⟨d,i,V,hn,hi,I,hz,c4,_⟩:=hτ.ones T c M;unfold EvLd at B;obtain⟨v,hv,N⟩:=B;unfold EvRun;refine⟨v,w,?_,N⟩;cases d<;>simp_all [Instr.loadAt,Instr.sureAddr,loadVar,isAgg,run_underlying V,jz']
    ·rw[O]at B;exact B
  ·exact B.elim
 case store T x y=>
  have B:=D.wv (D.wv h);split at B
  ·rename_i ad O
   refine xq (m:=Instr.storeAt T (a.eval x) (a.eval y)) (by simp[execOp,E]) D ?_ H;rw[O];split at B
   ·rename_i c M
    obtain⟨d,i,V,hn,hi,I,hz,c4,_⟩:=hτ.ones T c M;unfold EvSt at B;obtain⟨⟨u,a1⟩,c5,c6,N⟩:=B;unfold EvRunU;refine⟨_,?_,N⟩;have a6:(a.eval y).cells= #[a.eval y]:=by
     cases hy:a.eval y<;>simp_all [Value.cells,Value.oneCell']
    have a7:=run_store P w ad (a.eval y) .plain c6;simp only[a1,c5,Bool.false_eq_true,if_false]at a7;have c7:ad.add 0=ad:=by simp[Addr.add]
    simp[Instr.storeAt,Instr.sureAddr,storeVar,a6,sizeOf,typeInfo,hi,I,storeCells,c7,a7]
   ·split at B
    ·rename_i fs z cs Z hv
     obtain⟨gs,V,a0,L,i,hi,I,hz⟩:=hτ.tab T fs z Z;split at B
     ·rename_i hb
      have e1:=Nat.eq_of_beq_eq_true hb;unfold EvRunU at B ⊢;obtain⟨w',a7,N⟩:=B;refine⟨w',?_,N⟩;have e2:cs.size=z.length:=by simpa using e1
      simp[Instr.storeAt,Instr.sureAddr,storeVar,hv,Value.cells,sizeOf,typeInfo,hi,I,e2,a7]
     ·exact B.elim
    ·rw[O]at B;exact B
  ·exact B.elim
 case binOp op T x y U=>exact cY (m:=do eqGuard op T x y (a.eval x) (a.eval y);binOp op T (a.eval x) (a.eval y)) (by simp[execOp,E]) D (H6 hτ (D.wv (D.wv h))) H
 case unOp op T x=>exact cY (m:=Op.unary op (a.eval x)) (by simp[execOp,E]) D (H7 (D.wv h)) H
 case convert T U x=>
  have B:=D.wv h;refine cY (m:=convert T U (a.eval x)) (by simp[execOp,E]) D ?_ H;split at B
  ·rename_i j0 m c0 c O hT hU
   split at B
   ·rename_i j hj
    obtain⟨d,i,V,_⟩:=hτ.ones T c0 hT;obtain⟨d',i',a1,_,_,_,_,_,_,c8⟩:=hτ.ones U c hU;have:=c8 j hj;subst this
    replace B:=EvInt.elim B
    unfold EvRun;refine⟨_,w,?_,B⟩;rw[O];simp[convert,run_underlying V,run_underlying a1,Conv.intToInt]
   ·exact B
  ·exact B
 case makeInterface T x=>exact cY (by simp[execOp,E]) D (D.wv h) H
 case makeFunc fn first F=>
  have B:=D.wvs _ _ (D.wvs _ _ h);refine jA (v:=.func fn (first.map a.eval) (F.map a.eval)) (by simp[execOp,E,Instr.makeFunc]) D ?_ H;rw[rq,rq];exact B
 case makeMap T r=>
  cases r with
  |none=>exact cY (by simp[execOp,E]) D h H
  |some r=>exact cY (by simp[execOp,E]) D (D.wv h) H
 case makeSlice T l c=>exact cY (by simp[execOp,E]) D (D.wv (D.wv h)) H
 case slice T x lo hi mx=>exact cY (by simp[execOp,E]) D (D.wvo (D.wvo (D.wvo (D.wv h)))) H
 case fieldAddr T x f=>
  have B:=D.wv h;split at B
  ·rename_i ad fs z O Z
   split at B
   ·rename_i a2 sz ag W
    obtain⟨gs,V,a0,L,_⟩:=hτ.tab T fs z Z;rw[gA,<- a0]at W;simp only[List.getElem?_map]at W;cases Y:gs.toList[f]? with
    |none=>simp[Y]at W
    |some g=>
     simp[Y]at W;obtain⟨ho,_,_⟩:=W;obtain⟨_,j,hj,I⟩:=L g (List.mem_of_getElem? Y);have a5:gs[f]?=some g:=by simpa using Y
     refine jA (v:=.pointer (some (ad.add a2))) ?_ D B H;simp[execOp,E,Instr.fieldAt,run_underlying V,a5,O,Instr.sureAddr,fieldPlace,sizeOf,typeInfo,hj,I,ho]
   ·exact B.elim
  ·exact B.elim
 case field T x f=>
  have B:=D.wv h;split at B
  ·rename_i cs fs z O Z
   obtain⟨gs,V,a0,L,_⟩:=hτ.tab T fs z Z;split at B
   ·rename_i a2 sz W
    rw[gA,<- a0]at W;simp only[List.getElem?_map]at W;cases Y:gs.toList[f]? with
    |none=>simp[Y]at W
    |some g=>
     simp[Y]at W;obtain⟨ho,hs,a3⟩:=W;obtain⟨⟨d,hd⟩,j,hj,I⟩:=L g (List.mem_of_getElem? Y);have a5:gs[f]?=some g:=by simpa using Y
     refine jA (v:=_) ?_ D B H;have c9:j.size=sz:=by rw[<- hs];simp[Program.cellsOf,hj]
     unfold tO at a3;rw[hd]at a3;have c':(cs.extract a2 (a2+sz))=((cs.toList.drop a2).take sz).toArray:=by
      apply Array.ext';simp[List.extract_eq_take_drop]
     cases d<;>simp[jz']at a3<;>
      simp[execOp,E,Instr.field,run_underlying V,a5,O,asAgg,part,isAgg,run_underlying hd,sizeOf,typeInfo,hj,c9,ho,c']
   ·rename_i a2 sz W
    rw[gA,<- a0]at W;simp only[List.getElem?_map]at W;cases Y:gs.toList[f]? with
    |none=>simp[Y]at W
    |some g=>
     simp[Y]at W;obtain⟨ho,hs,a3⟩:=W;obtain⟨⟨d,hd⟩,j,hj,I⟩:=L g (List.mem_of_getElem? Y);have a5:gs[f]?=some g:=by simpa using Y
     split at B
     ·rename_i u a1
      rw[gA]at a1;have b6:cs[a2]?=some u:=by simpa using a1
      refine jA (v:=u) ?_ D B H;unfold tO at a3;rw[hd]at a3;cases d<;>simp[jz']at a3<;>
       simp[execOp,E,Instr.field,run_underlying V,a5,O,asAgg,part,isAgg,run_underlying hd,ho,b6]
     ·exact B.elim
   ·exact B.elim
  ·exact B.elim
 case indexAddr T x i=>
  have B:=D.wv (D.wv h);refine cY (m:=Instr.indexAt T (a.eval x) (a.eval i)) (by simp[execOp,E]) D ?_ H;split at B
  ·rename_i ad len cap j m e sz bs O hi hs
   obtain⟨V,e',L,I,_⟩:=hτ.slcs T e sz bs hs;unfold EvIx at B;obtain⟨f',rfl,h0,e0,N⟩:=B;unfold EvRun;refine⟨_,w,?_,N⟩;rw[O,hi];simp[Instr.indexAt,asIntOf,run_underlying V,h0,e0,sizeOf,typeInfo,L,I]
  ·exact B
 case index T x i=>exact cY (by simp[execOp,E]) D (D.wv (D.wv h)) H
 case lookup T x i ok=>exact cY (by simp[execOp,E]) D (D.wv (D.wv h)) H
 case mapUpdate T m i x=>exact xq (by simp[execOp,E]) D (D.wv (D.wv (D.wv h))) H
 case insert T m i x=>exact xq (by simp[execOp,E]) D (D.wv (D.wv (D.wv h))) H
 case range T x=>exact cY (by simp[execOp,E]) D (D.wv h) H
 case next x b=>exact cY (by simp[execOp,E]) D (D.wv h) H
 case entry x=>exact cY (by simp[execOp,E]) D (D.wv h) H
 case typeAssert x T U ok=>exact cY (by simp[execOp,E]) D (D.wv h) H
 case extract x i=>
  have B:=D.wv h;split at B
  ·rename_i vs O
   split at B
   ·rename_i u V
    rw[gA]at V;have a1:vs[i]?=some u:=by simpa using V
    exact jA (v:=u) (by simp[execOp,E,Instr.extract,O,a1]) D B H
   ·exact B.elim
  ·exact B.elim
 case call c=>
  cases M:c.callee with
  |value f=>
   simp only[M]at h;have B:=D.wvs _ _ (D.wv h);unfold tM at B;split at B
   ·rename_i g first F Y
    unfold EvCall at B;obtain⟨e3,b2⟩:=B;have Z:(execOp a.eval o).run P w= .ok (.enter g (first++(c.args.toList.map a.eval).toArray++F)) w:=by
     simp only[execOp,E,resolve,M,Y,Deferred.ofValue,Sem.run_bind,Sem.run_pure,Result.andThen_ok,invoke];rw[Co e3,rq]
    unfold Oper.wp;rw[Z,Oper.upon_enter];refine b2.mono λe w' he=>?_;cases e with
    |returned v=>
     have e4:put n s o.dst v λs'=>k s' w':=he;obtain⟨s',b3,hs⟩:=D.put e4;exact H _ _ _ b3 hs
    |panicked ch=>exact hp _ _ _ _ D he
    |outgrown=>exact he.elim
   ·exact B.elim
  |builtin b=>
   simp only[M]at h;have B:=D.wvs _ _ h;have e1:(c.args.toList.map a.eval).toArray=c.args.map a.eval:=(rq a c.args).symm;simp only[e1]at B;cases b<;>simp only at B
   case len=>
    refine cY (m:=Builtin.len_ c.argTypes o.type (c.args.map a.eval)) (by simp[execOp,E,resolve,M,invoke,builtin]) D ?_ H;split at B
    ·rename_i ad m cap T e5 e6
     split at B
     ·rename_i q hs
      obtain⟨e,sz,bs⟩:=q;obtain⟨V,_⟩:=hτ.slcs T e sz bs hs;unfold EvRun;refine⟨_,w,?_,B⟩;rw[<- e1,e5];have e7:c.argTypes= #[T]:=Array.ext' (by simpa using e6);rw[e7];simp[Builtin.len_,run_underlying V,goInt]
     ·exact B
    ·exact B
   case append=>exact cY (by simp[execOp,E,resolve,M,invoke,builtin]) D B H
   case cap=>exact cY (by simp[execOp,E,resolve,M,invoke,builtin]) D B H
   case copy=>exact cY (by simp[execOp,E,resolve,M,invoke,builtin]) D B H
   case min=>exact cY (by simp[execOp,E,resolve,M,invoke,builtin]) D B H
   case max=>exact cY (by simp[execOp,E,resolve,M,invoke,builtin]) D B H
   case clear=>exact cY (by simp[execOp,E,resolve,M,invoke,builtin]) D B H
   case delete=>exact cY (by simp[execOp,E,resolve,M,invoke,builtin]) D B H
  |invoke r m=>simp only[M]at h
 case defer c=>
  cases M:c.callee with
  |value f=>
   simp only[M]at h;have B:=D.wvs _ _ (D.wv h);split at B
   ·rename_i fn first F Y
    have Z:(execOp a.eval o).run P w= .ok (.defer {target:=.fn fn F,args:=first++(c.args.toList.map a.eval).toArray}) w:=by
     simp only[execOp,E,resolve,M,Y,Deferred.ofValue,Sem.run_bind,Sem.run_pure,Result.andThen_ok];rw[rq]
    have e8:Fr n {a with defers:={target:=.fn fn F,args:=first++(c.args.toList.map a.eval).toArray}::a.defers} ⟨s.e,{target:=.fn fn F,args:=first++(c.args.toList.map a.eval).toArray}::s.d⟩:=
     ⟨D.size,by simp[D.defers],D.has⟩
    obtain⟨s',b3,hs⟩:=e8.put B;unfold Oper.wp;rw[Z,Oper.upon_defer];exact H _ _ _ b3 hs
   ·exact B.elim
  |builtin b=>simp only[M]at h
  |invoke r m=>simp only[M]at h
 case nilCheck x=>
  have B:=D.wv h;split at B
  ·rename_i ad O
   exact jA (by simp[execOp,E,O]) D B H
  ·rename_i f us vs O
   exact jA (by simp[execOp,E,O]) D B H
  ·rename_i t u O
   exact jA (by simp[execOp,E,O]) D B H
  ·exact B.elim
 case panic x=>
  have B:=D.wv h;split at B
  ·rename_i t u O
   unfold Oper.wp;have Z:(execOp a.eval o).run P w= .halt (.panic (.iface t u)) w:=by simp[execOp,E,O,Instr.panic]
   rw[Z,Oper.upon_panic];exact hp _ _ _ _ D B
  ·exact B.elim
theorem H9(l:List Oper)(j:Nat):ly l j=(l.toArray[j]?).bind (·.dst):=by
 unfold ly;rw[gA];cases h:l[j]?<;>simp[h]
theorem Ia{l:List Oper}{j:Nat}{f:Bool}{d:Nat}{v:Value}(h:o.guard=some (j,f))(g:ly l j=some d)(i:a.tmps[d]?=some v):
  Region.wanted o (yielded l.toArray a.tmps)=((match v with| .bool b=>some b|_=>none)==some f):=by
 rw[H9]at g;simp only[Region.wanted,h,yielded,g,Option.bind_some,i];cases v<;>rfl
theorem tP(hτ:aS P τ){l:List Oper}{k:St ->World ->Prop}{kp:List PanicEntry ->St ->World ->Prop}{Q:Exit ->Act ->World ->Prop}
  (N:∀s' w' B,Fr n B s' ->k s' w' ->Q .normal B w') (O:∀ch s' w' B,Fr n B s' ->kp ch s' w' ->Q (.panic ch) B w'):
  ∀(r:List Oper) (s:St) (w:World) (a:Act),Fr n a s ->gh P τ n l k kp r s w ->wpList P l.toArray Q r a w
 |[],s,w,a,z,h=>N _ _ _ z h
 |o::r,s,w,a,z,h=>by
  have U:=tP hτ (l:=l) (Q:=Q) N O r;have g:∀(f:St),Fr n a f ->aV P τ n o f w (gh P τ n l k kp r) kp ->o.wp P a w (wpList P l.toArray Q r) Q:=λf m u=>
   H8 hτ m u (λs' w' B D hs=>U s' w' B D hs) O
  have i:∀(f:St),Fr n a f ->(put n f o.dst undef λs'=>gh P τ n l k kp r s' w) ->wpList P l.toArray Q r (a.put o.dst undef) w:=λf m u=>by
   obtain⟨s',D,hs⟩:=m.put u;exact U s' w _ D hs
  rw[mz]at h;unfold wpList;cases L:o.guard with
  |none=>
   rw[L]at h;rw[if_pos (by simp[Region.wanted,L])];exact .inl (g s z h)
  |some q=>
   obtain⟨j,F⟩:=q;rw[L]at h;simp only at h;cases M:ly l j with
   |none=>rw[M]at h;exact h.elim
   |some d=>
    rw[M]at h;simp only at h;cases E:get s.e d with
    |none=>rw[E]at h;exact h.elim
    |some v=>
     rw[E]at h;have H:=Ia (a:=a) L M (z.has d v E);cases v<;>simp only at h
     case bool c=>
      cases F<;>simp only at h<;>rcases br_cases h with ⟨e,I⟩|⟨e,I⟩<;>subst e
      ·rw[if_neg (by rw[H];simp)]
       exact i _ (z.again E) I
      ·rw[if_pos (by rw[H];simp)]
       exact .inl (g _ (z.again E) I)
      ·rw[if_pos (by rw[H];simp)]
       exact .inl (g _ (z.again E) I)
      ·rw[if_neg (by rw[H];simp)]
       exact i _ (z.again E) I
     case tuple V=>
      rw[if_neg (by rw[H];simp)];exact i _ z h
theorem mC(hτ:aS P τ):∀(c:Code) (s:St) (w:World) (K:Exit ->St ->World ->Prop),jV P τ n c s w K ->∀a,Fr n a s ->c.wp P (lift n K) a w:=by
 intro c
 induction c with
 |skip=>exact λs w K h a g=>wp_skip ⟨s,g,h⟩
 |region id u z=>
  intro s w K h a g;cases z with
  |true=>unfold jV at h;simp only at h;unfold EvCode at h;exact h a g
  |false=>
   refine wp_region_list ?_;have:=tP hτ (n:=n) (l:=u.toList) (Q:=lift n K) (k:=K .normal) (kp:=λB=>K (.panic B)) (λs' w' D d hs=>⟨s',d,hs⟩) (λB s' w' D d hs=>⟨s',d,hs⟩) u.toList s w a g h
   simpa using this
 |seq x y i r=>
  intro s w K h a g;refine wp_seq<|Go.wp_mono (i s w _ h a g) λe D w' E=>?_;obtain⟨s',d,hs⟩:=E;cases e with
  |normal=>exact r s' w' K hs D d
  |exit id=>exact⟨s',d,hs⟩
  |goto l=>exact⟨s',d,hs⟩
  |ret=>exact⟨s',d,hs⟩
  |panic B=>exact⟨s',d,hs⟩
  |outgrown=>exact⟨s',d,hs⟩
 |cond c x y i r=>
  intro s w K h a g;have F:=g.wv h;split at F
  ·rename_i t M
   rcases br_cases F with ⟨e,H⟩|⟨e,H⟩
   ·subst e;exact wp_cond_true M (i s w K H a g)
   ·subst e;exact wp_cond_false M (r s w K H a g)
  ·exact F.elim
 |block id x I=>
  intro s w K h a g;refine wp_block<|Go.wp_mono (I s w _ h a g) λe D w' E=>?_;obtain⟨s',d,hs⟩:=E;cases e with
  |normal=>exact⟨s',d,hs⟩
  |exit j=>
   simp only[Exit.inBlock];simp only[Cf]at hs
   by_cases L:j=id
   ·subst L;rw[if_pos rfl];simp at hs;exact⟨s',d,hs⟩
   ·rw[if_neg L]
    have:Nat.beq j id=false:=by
     cases N:Nat.beq j id with
     |true=>exact absurd (Nat.eq_of_beq_eq_true N) L
     |false=>rfl
    rw[this]at hs;exact⟨s',d,hs⟩
  |goto l=>exact⟨s',d,hs⟩
  |ret=>exact⟨s',d,hs⟩
  |panic B=>exact⟨s',d,hs⟩
  |outgrown=>exact⟨s',d,hs⟩
 |exit id=>exact λs w K h a g=>wp_exit ⟨s,g,h⟩
 |ret=>exact λs w K h a g=>wp_ret ⟨s,g,h⟩
 |label l=>exact λs w K h a g=>wp_label ⟨s,g,h⟩
 |loop x I=>intro s w K h a g;unfold jV at h;simp only at h;unfold EvCode at h;exact h a g
 |rangeFunc f O x y i r=>intro s w K h a g;unfold jV at h;simp only at h;unfold EvCode at h;exact h a g
 |scope x I=>intro s w K h a g;unfold jV at h;simp only at h;unfold EvCode at h;exact h a g
 |goto l=>intro s w K h a g;unfold jV at h;simp only at h;unfold EvCode at h;exact h a g
 |refuse m=>intro s w K h a g;unfold jV at h;simp only at h;unfold EvCode at h;exact h a g
end
def ini:List Value ->Nat ->List (Nat×Value)
 |[],_=>[]
 |v::r,i=>(i,v)::ini r (i+1)
def kz(P:Program)(s:St)(l:List ResultVar):World ->(List Value ->Prop) ->Prop:=
 List.rec (motive:=λ_=>World ->(List Value ->Prop) ->Prop) (λ_ k=>k []) (λx _ ih w k=>match x with
  | .tmp t=>match get s.e t with
   |some v=>ih w λvs=>k (v::vs)
   |none=>False
  | .cell t T=>match get s.e t with
   |some (.pointer (some a))=>EvRun P (loadVar T a) w λv w'=>w'=w/\ih w λvs=>k (v::vs)
   |_=>False) l
theorem Ct(P:Program)(s:St)(t:Nat)(r:List ResultVar)(w:World)(k:List Value ->Prop):kz P s (.tmp t::r) w k=(match get s.e t with
   |some v=>kz P s r w λvs=>k (v::vs)
   |none=>False):=rfl
theorem xu(P:Program)(s:St)(t:Nat)(T:TypeId)(r:List ResultVar)(w:World)(k:List Value ->Prop):kz P s (.cell t T::r) w k=(match get s.e t with
   |some (.pointer (some a))=>EvRun P (loadVar T a) w λv w'=>w'=w/\kz P s r w λvs=>k (v::vs)
   |_=>False):=rfl
def one:List Value ->Value
 |[v]=>v
 |vs=>.tuple vs.toArray
def jB(P:Program)(rs:List ResultVar)(R:Ending ->World ->Prop):Exit ->St ->World ->Prop
 | .normal,s,w=>match s.d with
  |[]=>kz P s rs w λvs=>R (.returned (one vs)) w
  |_=>False
 | .ret,s,w=>match s.d with
  |[]=>kz P s rs w λvs=>R (.returned (one vs)) w
  |_=>False
 | .panic ch,s,w=>match s.d with
  |[]=>R (.panicked ch) w
  |_=>False
 | .outgrown,_,w=>R .outgrown w
 |_,_,_=>False
theorem lC':∀(l:List Value) (i t:Nat) (v:Value),get (ini l i) t=some v ->i<=t/\l[t-i]?=some v
 |[],i,t,v,h=>by simp[ini,Cc]at h
 |u::r,i,t,v,h=>by
  simp only[ini,eV]at h;cases hb:Nat.beq i t with
  |true=>
   rw[hb]at h;have e:=Nat.eq_of_beq_eq_true hb;subst e;have:u=v:=by simpa using h
   subst this;simp
  |false=>
   rw[hb]at h;obtain⟨f,d⟩:=lC' r (i+1) t v h;refine⟨Uo,?_⟩;rw[show t-i=(t-(i+1))+1 by omega]
   simpa using d
def pK(tmps:Array Value):ResultVar ->Sem Value
 | .tmp t=>pure (tmps.getD t undef)
 | .cell ad t=>do loadVar t (<- asAddr (tmps.getD ad undef))
theorem xv{P:Program}{a:Act}{s:St}{n:Nat}(d:Fr n a s):∀(rs:List ResultVar) (w:World) (k:List Value ->Prop),kz P s rs w k ->
  ∃vs,(rs.mapM (m:=Sem) (pK a.tmps)).run P w= .ok vs w/\vs.length=rs.length/\k vs
 |[],w,k,h=>⟨[],Ud,rfl,h⟩
 | .tmp t::r,w,k,h=>by
  rw[Ct]at h;split at h
  ·rename_i v f
   obtain⟨vs,h1,h2,h3⟩:=xv d r w _ h;have g:a.tmps.getD t undef=v:=by simp[d.has t v f]
   refine⟨v::vs,?_,by simp[h2],h3⟩;have i:(pK a.tmps (.tmp t)).run P w= .ok v w:=by simp[pK,g]
   simp only[List.mapM_cons,Sem.run_bind,Sem.run_pure,Result.andThen_ok,i,h1]
  ·exact h.elim
 | .cell t T::r,w,k,h=>by
  rw[xu]at h;split at h
  ·rename_i j f
   unfold EvRun at h;obtain⟨v,w',u,rfl,z⟩:=h;obtain⟨vs,h1,h2,h3⟩:=xv d r w' _ z;have g:a.tmps.getD t undef= .pointer (some j):=by simp[d.has t _ f]
   refine⟨v::vs,?_,by simp[h2],h3⟩;have i:(pK a.tmps (.cell t T)).run P w'= .ok v w':=by simp[pK,g,asAddr,u]
   simp only[List.mapM_cons,Sem.run_bind,Sem.run_pure,Result.andThen_ok,i,h1]
  ·exact h.elim
theorem rr{P:Program}{fn:Func}{a:Act}{s:St}{n:Nat}(f:Fr n a s){w:World}{k:List Value ->Prop}(h:kz P s fn.results.toList w k):
  ∃vs,(results fn a.tmps).run P w= .ok (one vs) w/\k vs:=by
 obtain⟨vs,d,i,g⟩:=xv f _ _ _ h;refine⟨vs,?_,g⟩;have e:results fn a.tmps=(do let vs<- fn.results.mapM (pK a.tmps);pure (if h:vs.size=1 then vs[0]else .tuple vs)):=rfl;rw[e,Array.mapM_eq_mapM_toList];simp only[bind_pure_comp,Sem.run_map]at d ⊢;rw[d];simp only[Result.andThen_ok]
 match vs with
 |[]=>simp[one]
 |[v]=>simp[one]
 |u::v::r=>simp[one]
theorem Ib{P:Program}{τ:Tau}{f:FuncId}{fn:Func}{c:Code}{args:List Value}{w:World}{R:Ending ->World ->Prop}(n:Nat)(rs:List ResultVar)(hτ:aS P τ)
  (z:P.funcs[f]?=some fn) (hb:fn.body=some c) (B:fn.ntmps=n) (j:fn.results.toList=rs) (D:args.length<=n)
  (h:jV P τ n c ⟨ini args 0,[]⟩ w (jB P rs R)):Calls P f args.toArray w R:=by
 subst B j;refine calls_of_wp z hb ?_;have E:Fr fn.ntmps {tmps:=args.toArray++Array.replicate (fn.ntmps-args.toArray.size) undef,defers:=[] } ⟨ini args 0,[]⟩:=by
  refine⟨Uk,rfl,λt v F=>?_⟩;obtain⟨_,d⟩:=lC' _ _ _ _ F;rw[Nat.sub_zero]at d;have m:t<args.length:=(List.getElem?_eq_some_iff.1 d).1;rw[Array.getElem?_append_left (by simpa using m)]
  simpa using d
 refine Go.wp_mono (mC hτ c _ w _ h _ E) λe L w' H=>?_;obtain⟨s,g,hs⟩:=H;have r:=g.defers;cases e with
 |normal=>
  simp only[jB]at hs;split at hs
  ·rename_i i
   obtain⟨I,u,d⟩:=rr g hs;exact⟨by rw[r,i],_,u,d⟩
  ·exact hs.elim
 |ret=>
  simp only[jB]at hs;split at hs
  ·rename_i i
   obtain⟨I,u,d⟩:=rr g hs;exact⟨by rw[r,i],_,u,d⟩
  ·exact hs.elim
 |panic M=>
  simp only[jB]at hs;split at hs
  ·rename_i i
   exact⟨by rw[r,i],hs⟩
  ·exact hs.elim
 |outgrown=>exact hs
 |exit id=>exact hs.elim
 |goto l=>exact hs.elim
theorem br{c:Bool}{A B:Prop}(h1:c=true ->A)(h2:c=false ->B):Br c A B:=by
 cases c
 ·exact h2 rfl
 ·exact h1 rfl
theorem dm{p:Prop} [Decidable p]{A B:Prop}(h1:p ->A)(h2:¬ p ->B):Br (decide p) A B:=
 br (λh=>h1 (of_decide_eq_true h)) (λh=>h2 (of_decide_eq_false h))
theorem tQ{c:Bool}{A B:Prop}(h:c=true)(d:A):Br c A B:=by subst h;exact d
theorem tR{c:Bool}{A B:Prop}(h:c=false)(d:B):Br c A B:=by subst h;exact d
theorem Ic{r:Int}{k:Value ->Prop}(h1:-9223372036854775808<=r)(h2:r<=9223372036854775807)(d:k (.int .i64 r)):EvInt .i64 r k:=by
 unfold EvInt;exact⟨_,rfl,by rw[IntWalk.i64_in r Uo];exact d⟩
theorem xw{j:IntKind}{r:Int}{k:Value ->Prop}(d:k (.int j (j.wrap r))):EvInt j r k:=by
 unfold EvInt;exact⟨_,rfl,d⟩
theorem pL{j:IntKind}{r:Int}{k:Value ->Prop}(x:Int)(h:j.wrap r=x)(d:k (.int j x)):EvInt j r k:=by
 subst h;exact xw d
theorem run{P:Program}{m:Sem Value}{w w':World}{v:Value}{k:Value ->World ->Prop}(h:m.run P w= .ok v w')(d:k v w'):EvRun P m w k:=by
 unfold EvRun;exact⟨v,w',h,d⟩
theorem tS{P:Program}{m:Sem Unit}{w w':World}{k:World ->Prop}(h:m.run P w= .ok () w')(d:k w'):EvRunU P m w k:=by
 unfold EvRunU;exact⟨w',h,d⟩
theorem ld{w:World}{a:Addr}{v:Value}{k:Value ->Prop}(h:w.cell? a=some v)(d:k v):EvLd w a k:=by
 unfold EvLd;exact⟨v,h,d⟩
theorem pN(b o n:Nat):(⟨b,o,none⟩:Addr).add n=⟨b,o+n,none⟩:=by
 unfold Addr.add;split
 ·rename_i h;subst h;rfl
 ·rfl
theorem ix{b o len sz:Nat}{i:Int}{k:Addr ->Prop}(j:Nat)(hi:i=j)(h1:j<len)(d:k ⟨b,o+j*sz,none⟩):EvIx (some ⟨b,o,none⟩) len sz i k:=by
 unfold EvIx;refine⟨_,rfl,Uo,Uo,?_⟩;rw[pN,hi,Int.toNat_natCast];exact d
theorem jg{P:Program}{f:FuncId}{args:Array Value}{w:World}{k:Value ->World ->Prop}{kp:List PanicEntry ->World ->Prop}{R:Ending ->World ->Prop}
  (h:dM P f/\Calls P f args w R) (d:∀e w',R e w' ->Ce k kp e w'):EvCall P f args w k kp:=by
 unfold EvCall;exact⟨h.1,h.2.mono d⟩
structure Kp(X:List Nat)(w w':World):Prop where
 os:w'.os=w.os
 tape:w'.tape=w.tape
 output:w'.output=w.output
 size:w.heap.size<=w'.heap.size
 block:∀b,b<w.heap.size ->b ∉ X ->w'.heap[b]?=w.heap[b]?
theorem Kp.refl(X:List Nat)(w:World):Kp X w w:=⟨rfl,rfl,rfl,Nat.le_refl _,λ_ _ _=>rfl⟩
theorem Kp.trans{X Y:List Nat}{a b c:World}(h:Kp X a b)(k:Kp Y b c)(hs:∀x,x∈Y ->x<a.heap.size ->x∈X):Kp X a c:=
 ⟨k.os.trans h.os,k.tape.trans h.tape,k.output.trans h.output,Nat.le_trans h.size k.size,λi d f=>
  (k.block i (Nat.lt_of_lt_of_le d h.size) λg=>f (hs i g d)).trans (h.block i d f)⟩
theorem Kp.tr{X:List Nat}{a b c:World}(h:Kp X a b)(k:Kp [] b c):Kp X a c:=h.trans k (λ_ h=>by cases h)
theorem Kp.weak{X Y:List Nat}{a b:World}(h:Kp X a b)(hs:∀x,x∈X ->x<a.heap.size ->x∈Y):Kp Y a b:=
 ⟨h.os,h.tape,h.output,h.size,λi d f=>h.block i d λg=>f (hs i g d)⟩
theorem Kp.alloc(w:World)(o:Obj):Kp [] w (w.alloc o):=
 ⟨rfl,rfl,rfl,Ud,λi d _=>RowKit.Below.heap_alloc _ _ _ d⟩
theorem Kp.set(w:World)(a:Addr)(v:Value):Kp [a.block] w (w.setCell a v):=
 ⟨rfl,rfl,rfl,by simp[World.setCell],λi _ d=>RowKit.Below.heap_setCell _ _ _ _ (by simpa using d)⟩
theorem Kp.below{w w':World}(h:Kp [] w w'):RowKit.Below w.heap.size w w':=⟨h.os,h.tape,h.output,h.size,λi d=>h.block i d Ud⟩
theorem Kp.dr{X:List Nat}{w w':World}(h:Kp X w w')(m:Nat):Kp X w {w' with drawn:=m}:=⟨h.os,h.tape,h.output,h.size,h.block⟩
theorem Kp.newSt{d f g:World}{b:Nat}(h:Kp [] d f)(hb:b=d.heap.size)(i:Kp [b] f g):Kp [] d g:=
 h.trans i λx j m=>by
  have:x=b:=by simpa using j
  omega
def Cl(h:Array Obj)(b o:Nat)(v:Value):Prop:=∃c T fz,h[b]?=some (.cells c T fz)/\c[o]?=some v
theorem Cl.cell{w:World}{b o:Nat}{v:Value}(h:Cl w.heap b o v):w.cell? ⟨b,o,none⟩=some v:=by
 obtain⟨c,T,g,d,f⟩:=h;simp[World.cell?,d,f]
theorem Cl.of{w:World}{b o:Nat}{v:Value}(h:w.cell? ⟨b,o,none⟩=some v):Cl w.heap b o v:=by
 unfold World.cell? at h;split at h
 ·rename_i c T d f;exact⟨c,T,d,f,by simpa using h⟩
 ·cases h
theorem Cl.lt{h:Array Obj}{b o:Nat}{v:Value}(hc:Cl h b o v):b<h.size:=by
 obtain⟨c,T,g,f,_⟩:=hc;rcases Nat.lt_or_ge b h.size with d|d
 ·exact d
 ·simp[Array.getElem?_eq_none d]at f
theorem Cl.kp{X:List Nat}{w w':World}{b o:Nat}{v:Value}(hc:Cl w.heap b o v)(h:Kp X w w')(d:b ∉ X):Cl w'.heap b o v:=by
 have f:=hc.lt;obtain⟨c,T,g,i,j⟩:=hc;exact⟨c,T,g,by rw[h.block b f d];exact i,j⟩
def Bk(h:Array Obj)(b:Nat)(cs:List Value)(T:TypeId):Prop:=h[b]?=some (.cells cs.toArray T (0,0))
theorem Bk.cl{h:Array Obj}{b:Nat}{cs:List Value}{T:TypeId}(hb:Bk h b cs T){o:Nat}{v:Value}(d:cs[o]?=some v):Cl h b o v:=
 ⟨_,_,_,hb,by simpa using d⟩
theorem Bk.lt{h:Array Obj}{b:Nat}{cs:List Value}{T:TypeId}(hb:Bk h b cs T):b<h.size:=by
 rcases Nat.lt_or_ge b h.size with d|d
 ·exact d
 ·unfold Bk at hb;simp[Array.getElem?_eq_none d]at hb
theorem Bk.kp{X:List Nat}{w w':World}{b:Nat}{cs:List Value}{T:TypeId}(hb:Bk w.heap b cs T)(h:Kp X w w')(d:b ∉ X):Bk w'.heap b cs T:=by
 have f:=hb.lt;unfold Bk;rw[h.block b f d];exact hb
theorem fill{o:Option (List Value)}{k:List Value ->Prop}(cs:List Value)(h:o=some cs)(d:k cs):EvFill o k:=by
 unfold EvFill;exact⟨cs,h,d⟩
theorem jC{w:World}{T:TypeId}{cs:List Value}{k:Nat ->World ->Prop}(d:∀(b:Nat) (w':World),b=w.heap.size ->Bk w'.heap b cs T ->w'.heap.size=b+1 ->Kp [] w w' ->k b w'):EvNew w T cs k:=by
 unfold EvNew;refine⟨_,_,⟨rfl,rfl⟩,d _ _ rfl ?_ Ud (Kp.alloc _ _)⟩;show (w.heap.push _)[_]?=_;simp
theorem st{w:World}{b o:Nat}{v:Value}{k:World ->Prop}{cs:List Value}{T:TypeId}(hb:Bk w.heap b cs T)(f:o<cs.length)(g:v.oneCell'=true)
  (h:∀w',Bk w'.heap b (cs.set o v) T ->w'.heap.size=w.heap.size ->Kp [b] w w' ->k w'):EvSt w ⟨b,o,none⟩ v k:=by
 unfold EvSt;have d:w.heap[b]?=some (.cells cs.toArray T (0,0)):=hb;refine⟨⟨cs[o],(hb.cl (by simp[f])).cell⟩,?_,g,?_⟩
 ·simp[World.frozen?,d]
 ·refine h _ ?_ (by simp[World.setCell]) (Kp.set w ⟨b,o,none⟩ v)
  unfold Bk;simp only[World.setCell,Array.getElem?_modify,if_true,d];simp
theorem lz{w:World}{b o n:Nat}{k:Value ->Prop}(cs:List Value)(d:cs.length=n)(h:∀j v,cs[j]?=some v ->Cl w.heap b (o+j) v)(f:k (.agg cs.toArray)):EvLdN w ⟨b,o,none⟩ n k:=by
 unfold EvLdN;refine⟨cs,d,λj v g=>?_,f⟩;have:=(h j v g).cell;unfold Addr.add;split
 ·rename_i i;subst i;simpa using this
 ·exact this
theorem stN{P:Program}{w:World}{b:Nat}{vs:List Value}{k:World ->Prop}{cs:List Value}{T:TypeId}(hb:Bk w.heap b cs T)(hl:vs.length=cs.length)(W:∀v∈vs,v.oneCell'=true)
  (Y:∀w',Bk w'.heap b vs T ->w'.heap.size=w.heap.size ->Kp [b] w w' ->k w'):EvRunU P (storeCells ⟨b,0,none⟩ vs) w k:=by
 have L:∀(r:List Value) (i:Nat) (w0:World) (f:List Value),(∀v∈r,v.oneCell'=true) ->f.length=i ->(∃d,Bk w0.heap b (f++d) T/\d.length=r.length) ->w0.heap.size=w.heap.size ->Kp [b] w w0 ->
   ∃w',(storeCells ⟨b,0,none⟩ r i).run P w0= .ok () w'/\Bk w'.heap b (f++r) T/\w'.heap.size=w.heap.size/\Kp [b] w w':=by
  intro r
  induction r with
  |nil=>
   intro i w0 f _ _ ⟨d,h,g⟩ j m;have:d=[]:=List.length_eq_zero_iff.1 g;subst this;exact⟨w0,by simp[storeCells],h,j,m⟩
  |cons v r Z=>
   intro i w0 f D z ⟨d,h,g⟩ j m
   match d,g with
   |u::d,g=>
   have B:w0.cell? ⟨b,i,none⟩=some u:=(h.cl (by rw[<- z];simp)).cell;have E:w0.heap[b]?=some (.cells (f++u::d).toArray T (0,0)):=h;have F:=run_store P w0 ⟨b,i,none⟩ v .plain (D v Ud);have M:w0.frozen? ⟨b,i,none⟩=false:=by simp[World.frozen?,E]
   simp only[B,M,Bool.false_eq_true,if_false]at F;have H:(⟨b,0,none⟩:Addr).add i=⟨b,i,none⟩:=by
    unfold Addr.add;split
    ·rename_i h0;subst h0;rfl
    ·simp
   have I:Bk (w0.setCell ⟨b,i,none⟩ v).heap b ((f++[v])++d) T:=by
    unfold Bk;simp only[World.setCell,Array.getElem?_modify,if_true,E];subst z;simp
   obtain⟨w',N,O,Q,U⟩:=Z (i+1) (w0.setCell ⟨b,i,none⟩ v) (f++[v]) (λx V=>D x (by simp[V])) (by simp[z]) ⟨d,I,by simpa using g⟩ (by simp[World.setCell,j])
    (m.trans (Kp.set w0 ⟨b,i,none⟩ v) (λx V _=>V))
   refine⟨w',?_,by simpa using O,Q,U⟩;simp only[storeCells,Sem.run_bind,H,F,Result.andThen_ok];exact N
 obtain⟨w',N,O,Q,U⟩:=L vs 0 w [] W rfl ⟨cs,by simpa using hb,hl.symm⟩ rfl (Kp.refl _ _);exact tS N (Y w' (by simpa using O) Q U)
theorem wp_loop_ghost{P:Program}{c:Code}{Q:Exit ->Act ->World ->Prop}{a:Act}{w:World}{σ:Type}(I:σ ->Act ->World ->Prop)(μ:σ ->Nat)(x0:σ)(H:I x0 a w)
  (cf:∀x a w,I x a w ->c.wp P (Exit.then (λr w'=>∃y,I y r w'/\μ y<μ x) Q) a w):(Code.loop c).wp P Q a w:=by
 intro b k D;have E:∀n x a w,μ x=n ->I x a w ->
   ∃e r w',Q e r w'/\Arrives P (lone (b.at a (.code c:: .inLoop c::k)) D w) b k D e r w':=by
  intro n
  induction n using Nat.strongRecOn with
  |_ n L=>
   intro x a w M N;obtain⟨e,f,g,i,d⟩:=cf x a w N b (.inLoop c::k) D;cases e with
   |normal=>
    obtain⟨y,j,F⟩:=i;obtain⟨u,z,B,m,h⟩:=L (μ y) (M▸F) y f g rfl j;exact⟨u,z,B,m,.of_steps (Steps.trans d (.one step_inLoop)) h⟩
   |exit id=>exact⟨_,f,g,i,.pass (x:=.inLoop c) rfl (λ_ _=>.inl Ud) d⟩
   |goto l=>exact⟨_,f,g,i,.pass (x:=.inLoop c) rfl (λ_ _=>.inl Ud) d⟩
   |ret=>exact⟨_,f,g,i,.pass (x:=.inLoop c) rfl (λ_ _=>.inl Ud) d⟩
   |panic O=>exact⟨_,f,g,i,.pass (x:=.inLoop c) rfl (λ_ _=>.inl Ud) d⟩
   |outgrown=>exact⟨_,f,g,i,.pass (x:=.inLoop c) rfl (λ_ _=>.inl Ud) d⟩
 obtain⟨e,r,w',i,d⟩:=E _ x0 a w rfl H;exact⟨e,r,w',i,.of_steps (.one step_loop) d⟩
def Has(s:St):List (Nat×Value) ->Prop
 |[]=>True
 |p::r=>get s.e p.1=some p.2/\Has s r
theorem Has.get{s:St}:∀{l:List (Nat×Value)},Has s l ->∀t v,get l t=some v ->get s.e t=some v
 |[],_,t,v,d=>by simp[Wx.get]at d
 |(k,u)::r,h,t,v,d=>by
  simp only[Wx.get]at d;cases hb:Nat.beq k t with
  |true=>
   rw[hb]at d;have e:=Nat.eq_of_beq_eq_true hb;subst e;have:u=v:=by simpa using d
   subst this;exact h.1
  |false=>rw[hb]at d;exact Has.get h.2 t v d
theorem loop{P:Program}{τ:Tau}{n:Nat}{c:Code}{s:St}{w:World}{K:Exit ->St ->World ->Prop}(hτ:aS P τ){σ:Type}(I:σ ->List (Nat×Value))(R:σ ->World ->Prop)(μ:σ ->Nat)(x0:σ)
  (u:Has s (I x0)) (B:R x0 w)
  (cf:∀x w,R x w ->jV P τ n c ⟨I x,s.d⟩ w (tN (λs' w'=>∃y,μ y<μ x/\s'.d=s.d/\Has s' (I y)/\R y w') K)):EvCode P n (.loop c) s w K:=by
 unfold EvCode;intro a D;have f:∀g s',Fr n g s' ->s'.d=s.d ->∀y,Has s' (I y) ->Fr n g ⟨I y,s.d⟩:=λg s' d h y E=>
  ⟨d.size,by rw[d.defers,h],λt v F=>d.has t v (E.get t v F)⟩
 refine wp_loop_ghost (λy a w=>Fr n a ⟨I y,s.d⟩/\R y w) μ x0 ⟨f a s D rfl x0 u,B⟩ ?_;intro y a w ⟨i,j⟩;refine Go.wp_mono (mC hτ c _ w _ (cf y w j) a i) λe g w' H=>?_;obtain⟨s',d,hs⟩:=H;cases e with
 |normal=>
  obtain⟨z,m,h,L,r⟩:=hs;exact⟨z,⟨f g s' d h z L,r⟩,m⟩
 |exit id=>exact⟨s',d,hs⟩
 |goto l=>exact⟨s',d,hs⟩
 |ret=>exact⟨s',d,hs⟩
 |panic M=>exact⟨s',d,hs⟩
 |outgrown=>exact⟨s',d,hs⟩
@[irreducible] def EvLdQ (C:World ->Prop) (a:Addr) (k:Value ->Prop):Prop:=∃v,(∀w,C w ->w.cell? a=some v)/\k v
@[irreducible] def EvLdNQ (C:World ->Prop) (a:Addr) (n:Nat) (k:Value ->Prop):Prop:=
 ∃cs:List Value,cs.length=n/\(∀w,C w ->∀j v,cs[j]?=some v ->w.cell? (a.add j)=some v)/\k (.agg cs.toArray)
@[irreducible] def EvCallQ (P:Program) (C:World ->Prop) (f:FuncId) (args:Array Value) (k:Value ->Prop):Prop:=
 ∃v,dM P f/\(∀w,C w ->Calls P f args w λe w'=>e= .returned v/\C w')/\k v
@[irreducible] def EvRunQ (P:Program) (C:World ->Prop) (m:Sem Value) (k:Value ->Prop):Prop:=∃v,(∀w,C w ->m.run P w= .ok v w)/\k v
def xx(P:Program)(τ:Tau)(C:World ->Prop)(op:BinOp)(T:TypeId)(x y:Operand)(a b:Value)(k:Value ->Prop):Prop:=
 match a,b with
 | .int j m,.int j' n=>match mR' j j' with
  |false=>EvRunQ P C (binOp op T (.int j m) (.int j' n)) k
  |true=>match op with
   | .add=>EvInt j (m+n) k
   | .sub=>EvInt j (m-n) k
   | .mul=>EvInt j (m*n) k
   | .eql=>k (.bool (decide (m=n)))
   | .neq=>k (.bool (decide (m≠n)))
   | .lss=>k (.bool (decide (m<n)))
   | .leq=>k (.bool (decide (m<=n)))
   | .gtr=>k (.bool (decide (n<m)))
   | .geq=>k (.bool (decide (n<=m)))
   |op=>EvRunQ P C (binOp op T (.int j m) (.int j' n)) k
 | .bool m,.bool n=>match look τ.ones T with
  |some 1=>match op with
   | .eql=>k (.bool (m==n))
   | .neq=>k (.bool (m !=n))
   |_=>False
  |_=>False
 |a,b=>EvRunQ P C (do eqGuard op T x y a b;binOp op T a b) k
def q1(P:Program)(τ:Tau)(n:Nat)(C:World ->Prop)(o:Oper)(s:St)(k:St ->Prop):Prop:=
 let fin:Value ->Prop:=λv=>put n s o.dst v k
 match o.op with
 | .move x=>wv s.e x fin
 | .assign x=>wv s.e x fin
 | .pick c a b=>wv s.e c λvc=>match vc with
  | .bool t=>Br t (wv s.e a fin) (wv s.e b fin)
  |_=>False
 | .build T ps=>wvp s.e ps.toList λvs=>match look τ.tab T with
  |some (fs,z)=>match my (ro fs) (z.map zc) vs with
   |some cs=>fin (.agg cs.toArray)
   |none=>False
  |none=>False
 | .load T x=>wv s.e x λv=>match v with
  | .pointer (some a)=>match look τ.tab T with
   |some (_,z)=>EvLdNQ C a z.length fin
   |none=>match look τ.ones T with
    |some _=>EvLdQ C a fin
    |none=>False
  |_=>False
 | .binOp op T x y _=>wv s.e x λa=>wv s.e y λb=>xx P τ C op T x y a b fin
 | .unOp op _ x=>wv s.e x λa=>match op,a with
  | .not,.bool b=>fin (.bool (!b))
  | .neg,.int j m=>EvInt j (0-m) fin
  |op,a=>EvRunQ P C (Op.unary op a) fin
 | .convert src dst x=>wv s.e x λv=>match v,look τ.ones src,look τ.ones dst with
  | .int _ m,some _,some c=>match kQ' c with
   |some j=>EvInt j m fin
   |none=>EvRunQ P C (convert src dst v) fin
  |_,_,_=>EvRunQ P C (convert src dst v) fin
 | .makeFunc fn first captured=>wvs s.e first.toList λus=>wvs s.e captured.toList λvs=>fin (.func fn us.toArray vs.toArray)
 | .slice T x lo hi mx=>wv s.e x λv=>wvo s.e lo λl=>wvo s.e hi λh=>wvo s.e mx λm=>EvRunQ P C (Instr.sliceAt T v l h m) fin
 | .fieldAddr T x f=>wv s.e x λv=>match v,look τ.tab T with
  | .pointer (some a),some (fs,_)=>match fh fs f with
   |some (o,_,_)=>fin (.pointer (some (a.add o)))
   |none=>False
  |_,_=>False
 | .field T x f=>wv s.e x λv=>EvRunQ P C (Instr.field T v f) fin
 | .indexAddr T x i=>wv s.e x λv=>wv s.e i λj=>match v,j,look τ.slcs T with
  | .slice a len _,.int _ m,some (_,sz,_)=>EvIx a len sz m λad=>fin (.pointer (some ad))
  |_,_,_=>EvRunQ P C (Instr.indexAt T v j) fin
 | .index T x i=>wv s.e x λv=>wv s.e i λj=>EvRunQ P C (Instr.index T v j) fin
 | .lookup T x i ok=>wv s.e x λv=>wv s.e i λj=>EvRunQ P C (Instr.lookup T v j ok) fin
 | .extract x i=>wv s.e x λv=>match v with
  | .tuple vs=>match fh vs.toList i with
   |some u=>fin u
   |none=>False
  |_=>False
 | .call c=>match c.callee with
  | .value f=>wv s.e f λg=>wvs s.e c.args.toList λvs=>match g with
   | .func (.func g) first captured=>EvCallQ P C g (first++vs.toArray++captured) fin
   |_=>False
  | .builtin b=>wvs s.e c.args.toList λvs=>match b with
   | .len=>match vs,c.argTypes.toList with
    |[.slice _ m _],[T]=>match look τ.slcs T with
     |some _=>fin (.int .i64 m)
     |none=>EvRunQ P C (Builtin.len_ c.argTypes o.type vs.toArray) fin
    |_,_=>EvRunQ P C (Builtin.len_ c.argTypes o.type vs.toArray) fin
   | .min=>EvRunQ P C (Builtin.min_ c.argTypes o.type vs.toArray) fin
   | .max=>EvRunQ P C (Builtin.max_ c.argTypes o.type vs.toArray) fin
   |_=>False
  |_=>False
 | .nilCheck x=>wv s.e x λv=>match v with
  | .pointer (some a)=>fin (.pointer (some a))
  |_=>False
 |_=>False
def wpQ(P:Program)(τ:Tau)(n:Nat)(C:World ->Prop)(all:List Oper)(k:St ->Prop)(l:List Oper):St ->Prop:=
 List.rec (motive:=λ_=>St ->Prop) (λs=>k s) (λo _ ih s=>match o.guard with
  |none=>q1 P τ n C o s ih
  |some (j,want)=>match ly all j with
   |none=>False
   |some d=>match get s.e d with
    |some (.bool c)=>match s with
     |⟨e,ds⟩=>match want with
      |true=>Br c (q1 P τ n C o ⟨(d,.bool true)::e,ds⟩ ih) (put n ⟨(d,.bool false)::e,ds⟩ o.dst undef λs'=>ih s')
      |false=>Br c (put n ⟨(d,.bool true)::e,ds⟩ o.dst undef λs'=>ih s') (q1 P τ n C o ⟨(d,.bool false)::e,ds⟩ ih)
    |some (.tuple _)=>put n s o.dst undef λs'=>ih s'
    |_=>False) l
section
variable{P:Program}{τ:Tau}{n:Nat}{o:Oper}{a:Act}{s:St}{C:World ->Prop}
def Yq(P:Program)(n:Nat)(C:World ->Prop)(o:Oper)(a:Act)(k:St ->Prop):Prop:=
 ∃v,(∀w,C w ->o.quietAt P a C w v)/\∃s',Fr n (a.put o.dst v) s'/\k s'
end
theorem Cv{P:Program}{τ:Tau}(hτ:aS P τ){T e sz bs:Nat}(hs:look τ.slcs T=some (e,sz,bs)){z:List Value}(D:τ.zero e=some z){w:World}{k:Value ->World ->Prop}{i j:Int}(l n:Nat)(hi:i=l)(E:j=n)(F:l<=n)(hsz:0<z.length)(U:bs*n<=281474976710656)(H:n<=9223372036854775807)
  (I:∀b w',b=w.heap.size ->Bk w'.heap b (gU z n) e ->w'.heap.size=b+1 ->Kp [] w w' ->k (.slice (some ⟨b,0,none⟩) l n) w'):EvRun P (Instr.makeSlice T (.int .i64 i) (.int .i64 j)) w k:=by
 obtain⟨L,r,h,u,g⟩:=hτ.slcs T e sz bs hs;obtain⟨d,v,f,M,N,m⟩:=mA hτ D;have:d=r:=by rw[f]at h;simpa using h
 subst this;subst hi E;have O:(d.bytes:Int)*(n:Int)<=281474976710656:=by
  rw[g];have:((bs*n:Nat):Int)<=281474976710656:=Uo
  rwa [Int.natCast_mul]at this
 have B:=run_make (P:=P) w T e d v L f M .i64 .i64 l n Uo Uo O Uo;simp only[Int.toNat_natCast]at B;refine run B (I _ _ rfl ?_ Ud (Kp.alloc _ _));show (w.heap.push _)[_]?=_;have Q:madeCells v.cells (n*d.size)=(gU z n).toArray:=by
  rw[N,m];exact Cs z n hsz
 rw[Q];simp
theorem mk{P:Program}{τ:Tau}(hτ:aS P τ){T e sz bs:Nat}(hs:look τ.slcs T=some (e,sz,bs)){z:List Value}(f:τ.zero e=some z){w:World}{k:Value ->World ->Prop}{i:Int}(n:Nat)(hi:i=n)(hsz:0<z.length)(g:bs*n<=281474976710656)(d:n<=9223372036854775807)
  (h:∀b w',b=w.heap.size ->Bk w'.heap b (gU z n) e ->w'.heap.size=b+1 ->Kp [] w w' ->k (.slice (some ⟨b,0,none⟩) n n) w'):EvRun P (Instr.makeSlice T (.int .i64 i) (.int .i64 i)) w k:=Cv hτ hs f n n hi hi (Nat.le_refl _) hsz g d h
def Ie(h:Array Obj)(b:Nat)(l:List Int)(T:TypeId):Prop:=Bk h b (l.map (Value.int .i64)) T
section
variable{P:Program}{τ:Tau}(hτ:aS P τ){T e sz bs:Nat}(hs:look τ.slcs T=some (e,sz,bs)){w:World}{k:Value ->World ->Prop}{a:Option Addr}{len cap:Nat}
include hτ hs
theorem ji':P.underlying T=some (.slice (P.elem T))/\∀w,(sizeOf (P.elem T)).run P w= .ok sz w:=by
 obtain⟨f,i,g,d,_⟩:=hτ.slcs T e sz bs hs;have h:P.elem T=e:=by simp[Program.elem,f]
 rw[h];exact⟨f,λw=>by simp[sizeOf,typeInfo,g,d]⟩
theorem xy{j:IntKind}{i:Int}(l:Nat)(hi:i=l)(hl:l<=len)(f:k (sliced a l len cap sz) w):EvRun P (Instr.sliceAt T (.slice a len cap) (some (.int j i)) none none) w k:=by
 obtain⟨d,g⟩:=ji' hτ hs;subst hi;refine run ?_ f;rw[run_sliceAt_slice w T _ _ _ _ d,run_slice_l w T a len cap d j l Uo Uo,g];simp
theorem rt{j:IntKind}{i:Int}(h:Nat)(hi:i=h)(hl:h<=cap)(f:k (sliced a 0 h cap sz) w):EvRun P (Instr.sliceAt T (.slice a len cap) none (some (.int j i)) none) w k:=by
 obtain⟨d,g⟩:=ji' hτ hs;subst hi;refine run ?_ f;rw[run_sliceAt_slice w T _ _ _ _ d,run_slice_h w T a len cap d j h Uo Uo,g];simp
theorem If{j f:IntKind}{i i':Int}(l h:Nat)(hi:i=l)(d:i'=h)(h1:l<=h)(h2:h<=cap)(m:k (sliced a l h cap sz) w):EvRun P (Instr.sliceAt T (.slice a len cap) (some (.int j i)) (some (.int f i')) none) w k:=by
 obtain⟨g,r⟩:=ji' hτ hs;subst hi d;refine run ?_ m;rw[run_sliceAt_slice w T _ _ _ _ g,run_slice_lh w T a len cap g j f l h Uo Uo Uo,r];simp
end
theorem i6{r:Int}{k:Value ->Prop}(d:k (.int .i64 r))(h1:-9223372036854775808<=r:=by first|omega|(simp only;omega))(h2:r<=9223372036854775807:=by first|omega|(simp only;omega)):EvInt .i64 r k:=Ic h1 h2 d
theorem xU{X:List Nat}{w w':World}{Y:List Nat}(h:∀b∈X,b<w.heap.size)(k:Kp Y w w'):∀b∈X,b<w'.heap.size:=λb d=>Nat.lt_of_lt_of_le (h b d) k.size
theorem bZ{w:World}{b T:Nat}{cs:List Value}(h:Bk w.heap b cs T):∀j v,cs[j]?=some v ->Cl w.heap b (0+j) v:=λj v d=>by rw[Nat.zero_add];exact h.cl d
theorem lb{w:World}{b o T:Nat}{cs:List Value}{v:Value}{k:Value ->Prop}(h:Bk w.heap b cs T)(d:k v)(f:cs[o]?=some v:=by rfl):EvLd w ⟨b,o,none⟩ k:=ld (Cl.cell (h.cl f)) d
theorem oF {P : Program} {f : FuncId} {fn : Func} {args : Array Value} {w : World} {R : Ending -> World -> Prop} (d : P.funcs[f]? = some fn) (h : Calls P f args w R) (h1 : fn.body.isNone = false := by rfl) (h2 : (fn.name == "runtime.NumGoroutine") = false := by decide) : dM P f /\ Calls P f args w R := ⟨⟨fn, d, h1, h2⟩, h⟩
theorem cO{P:Program}{τ:Tau}{f:FuncId}{fn:Func}{c:Code}{args:List Value}{w:World}{R:Ending ->World ->Prop}(n:Nat)(rs:List ResultVar)(hτ:aS P τ)
 (i:P.funcs[f]?=some fn) (h:jV P τ n c ⟨ini args 0,[]⟩ w (jB P rs R)) (hb:fn.body=some c:=by rfl) (j:fn.ntmps=n:=by rfl) (d:fn.results.toList=rs:=by rfl) (g:args.length<=n:=by exact Nat.le_of_ble_eq_true rfl):Calls P f args.toArray w R:=Ib n rs hτ i hb j d g h
def Hn':Op ->Bool
 | .move .. | .assign .. | .load .. | .fieldAddr .. | .indexAddr .. | .binOp .. | .unOp .. | .convert .. | .extract .. | .build .. | .pick .. | .field .. | .slice .. =>true
 |_=>false
def xz(n:Nat)(K:Exit ->St ->World ->Prop):Exit ->Act ->World ->Prop:=λe a w=>e= .normal/\lift n K .normal a w
@[irreducible] def EvAny (P:Program) (n:Nat) (S:World ->Prop) (l:List Oper) (K:Exit ->St ->World ->Prop) (fuel:Nat) (listed:Array Bool) (s:St) (w:World):Prop:=
 ∀a,Fr n a s ->wpAnyH P .any l.toArray (xz n K) S fuel listed a w
theorem ru{w w':World}{row:Option Nat}(h:w.grownBy w' row):Kp row.toList w w':=
 ⟨h.os,h.tape,h.output,h.size,λb d f=>h.block b d (λe=>f (by simp[<- e]))⟩
theorem pO{w:World}{base e sz n:Nat}{v:Value}{xs:List Value}(h:w.ownsRow base e sz v n xs):
  ∃a cap,v= .slice a n cap/\xs.length=n*sz/\n<=cap/\(n=0 \/∃g,a=some ⟨g,0,none⟩/\base<=g/\g<w.heap.size/\∀j u,xs[j]?=some u ->Cl w.heap g j u):=by
 obtain⟨i,r⟩:=h;rcases r with ⟨rfl,rfl⟩|⟨g,cap,f,rfl,z,m,B,E,F,D⟩
 ·exact⟨none,0,rfl,i,Nat.le_refl _,.inl rfl⟩
 ·refine⟨_,cap,rfl,i,B,.inr ⟨g,rfl,z,(Array.getElem?_eq_some_iff.1 m).1,λj u d=>⟨f,e,_,m,?_⟩⟩⟩
  rw[<- D,List.getElem?_take]at d;split at d
  ·simpa using d
  ·cases d
theorem Cw{w:World}{b base e sz n:Nat}{cs:List Value}(h:Bk w.heap b cs e)(hb:base<=b)(hc:cs.length=n*sz)(hm:n<=maxLen):w.ownsRow base e sz (.slice (some ⟨b,0,none⟩) n n) n cs:=
 ⟨hc,.inr ⟨b,n,cs.toArray,rfl,hb,h,Nat.le_refl _,hm,by simpa using hc,by rw[<- hc];simp⟩⟩
theorem xA{w w':World}{base e sz n:Nat}{v:Value}{xs:List Value}{X:List Nat}(h:w.ownsRow base e sz v n xs)(m:Kp X w w')(r:∀g,v.ownBlock=some g ->g ∉ X):w'.ownsRow base e sz v n xs:=by
 obtain⟨u,f⟩:=h;refine⟨u,?_⟩;rcases f with f|⟨g,cap,i,rfl,z,j,d⟩
 ·exact .inl f
 ·refine .inr ⟨g,cap,i,rfl,z,?_,d⟩
  rw[m.block g (Array.getElem?_eq_some_iff.1 j).1 (r g rfl)];exact j
theorem xB{P:Program}{w:World}{base size:Nat}(t ty e:TypeId)(i:TypeInfo)(h:P.underlying t=some (.slice e))(hi:P.info? e=some i)
  (v:Value) (n:Nat) (xs:List Value) (d:w.ownsRow base e size v n xs) (c:Nat):(Builtin.append_ #[t,t] ty #[v,.slice none 0 c]).run P w= .ok v w:=by
 rcases d.2 with ⟨rfl,rfl⟩|⟨g,cap,j,rfl,_,_,f,_⟩
 ·simp[Builtin.append_,run_underlying h,sizeOf,typeInfo,hi,Builtin.lenOf,Builtin.firstCells]
 ·simp[Builtin.append_,run_underlying h,sizeOf,typeInfo,hi,Builtin.lenOf,Builtin.firstCells,f,storeCells]
theorem ap{P:Program}{τ:Tau}(hτ:aS P τ){T e sz bs:Nat}(hs:look τ.slcs T=some (e,sz,bs)){z:List Value}(Z:τ.zero e=some z)(hsz:0<sz){w:World}{k:Value ->World ->Prop}{v:Value}{n m c ty:Nat}{xs:List Value}{a:Option Addr}
  (base:Nat) (g:w.ownsRow base e sz v n xs) (d:List Value) (hl:d.length=m*sz) (B:m=0 \/∃b o,a=some ⟨b,o,none⟩/\∀j u,d[j]?=some u ->Cl w.heap b (o+j) u)
  (h1:∀u∈d,u.oneCell'=true) (r:(n+m)*bs<=140737488355328) (L:n+m<=maxLen) (D:base<=w.heap.size)
  (V:∀I w',w'.ownsRow base e sz I (n+m) (xs++d) ->Kp v.ownBlock.toList w w' ->k I w'):EvRun P (Builtin.append_ #[T,T] ty #[v,.slice a m c]) w k:=by
 obtain⟨W,M,f,h,N⟩:=hτ.slcs T e sz bs hs;obtain⟨i,v0,E,hv,hc,H⟩:=mA hτ Z;have:i=M:=by rw[E]at f;simpa using f
 subst this;have O:v0.cells.size=sz:=by rw[hc,<- h,H];simp
 have Y:∀F,a=some F ->(∀j u,d[j]?=some u ->w.cell? (F.add j)=some u) ->EvRun P (Builtin.append_ #[T,T] ty #[v,.slice a m c]) w k:=λF ha Q=>by
  subst ha;obtain⟨I,w',hr,ho,hg,_⟩:=run_append_own (P:=P) w base T ty e i v0 sz bs W f hv h N O hsz v n xs g F m c d hl Q h1 L r D;exact run hr (V I w' ho (ru hg))
 rcases B with rfl|⟨b,o,rfl,Q⟩
 ·have U:d=[]:=List.eq_nil_of_length_eq_zero (by simpa using hl)
  subst U;cases a with
  |some F=>exact Y F rfl Ud
  |none=>
   refine run (xB T ty e i W f v n xs g c) (V v w (by simpa using g) (Kp.refl _ _))
 ·refine Y _ rfl λj u hj=>?_
  rw[show (⟨b,o,none⟩:Addr).add j=⟨b,o+j,none⟩ by unfold Addr.add;split<;>simp_all];exact(Q j u hj).cell
def I64(n:Int):Prop:=-9223372036854775808<=n/\n<=9223372036854775807
abbrev Mem:=Nat ->Nat ->Value ->Prop
def Sub(C:Mem)(w:World):Prop:=∀b o v,C b o v ->Cl w.heap b o v
theorem Sub.tr{C:Mem}{w w':World}(h:Sub C w)(k:Kp [] w w'):Sub C w':=λb o v d=>(h b o v d).kp k Ud
theorem Sub.kp{C:Mem}{X:List Nat}{w w':World}(h:Sub C w)(k:Kp X w w')(f:∀b o v,C b o v ->b ∉ X):Sub C w':=λb o v d=>(h b o v d).kp k (f b o v d)
def Old(w:World):Mem:=λb o v=>Cl w.heap b o v
theorem Old.sub(w:World):Sub (Old w) w:=λ_ _ _ h=>h
def Cu(h:Array Obj)(b o:Nat)(v:Value):Prop:=∃c T,h[b]?=some (.cells c T (0,0))/\c[o]?=some v
theorem Cu.cl{h:Array Obj}{b o:Nat}{v:Value}(hc:Cu h b o v):Cl h b o v:=by
 obtain⟨c,T,d,f⟩:=hc;exact⟨c,T,_,d,f⟩
theorem Cu.lt{h:Array Obj}{b o:Nat}{v:Value}(hc:Cu h b o v):b<h.size:=hc.cl.lt
theorem Cu.kp{X:List Nat}{w w':World}{b o:Nat}{v:Value}(hc:Cu w.heap b o v)(k:Kp X w w')(d:b ∉ X):Cu w'.heap b o v:=by
 have f:=hc.lt;obtain⟨c,T,g,h⟩:=hc;exact⟨c,T,by rw[k.block b f d];exact g,h⟩
theorem Bk.cu{h:Array Obj}{b:Nat}{cs:List Value}{T:TypeId}(hb:Bk h b cs T){o:Nat}{v:Value}(d:cs[o]?=some v):Cu h b o v:=⟨_,_,hb,by simpa using d⟩
def New(n:Nat)(w:World):Mem:=λb o v=>n<=b/\Cu w.heap b o v
theorem New.up{n m:Nat}{w w':World}(d:m<=n)(k:Kp [] w w'):∀b o v,New n w b o v ->New m w' b o v:=λb o v h=>⟨Nat.le_trans d h.1,h.2.kp k Ud⟩
structure Rd(α:Type) where
 sz:Nat
 den:Mem ->List Value ->α ->Prop
 len:∀{C cs x},den C cs x ->cs.length=sz
 mono:∀{C C':Mem} {cs x},(∀b o v,C b o v ->C' b o v) ->den C cs x ->den C' cs x
 one:∀{C cs x},den C cs x ->∀u∈cs,u.oneCell'=true
section
variable{α:Type}
def Rd.At(R:Rd α)(C:Mem)(b o:Nat)(x:α):Prop:=∃cs,R.den C cs x/\∀j v,cs[j]?=some v ->C b (o+j) v
theorem Rd.At.mono{R:Rd α}{C C':Mem}{b o:Nat}{x:α}(h:R.At C b o x)(hc:∀b o v,C b o v ->C' b o v):R.At C' b o x:=by
 obtain⟨d,f,g⟩:=h;exact⟨d,R.mono hc f,λj v i=>hc _ _ _ (g j v i)⟩
def Sl(R:Rd α)(C:Mem)(a:Option Addr)(l:List α):Prop:=
 l.length<=1099511627776/\(l.length=0 \/∃b o,a=some ⟨b,o,none⟩/\∀i x,l[i]?=some x ->R.At C b (o+i*R.sz) x)
theorem Sl.mono{R:Rd α}{C C':Mem}{a:Option Addr}{l:List α}(h:Sl R C a l)(hc:∀b o v,C b o v ->C' b o v):Sl R C' a l:=by
 refine⟨h.1,?_⟩;rcases h.2 with d|⟨b,o,f,g⟩
 ·exact .inl d
 ·exact .inr ⟨b,o,f,λi x j=>(g i x j).mono hc⟩
theorem Sl.nil(R:Rd α)(C:Mem)(a:Option Addr):Sl R C a []:=⟨Ud,.inl rfl⟩
theorem Sl.at{R:Rd α}{C:Mem}{a:Option Addr}{l:List α}(h:Sl R C a l){i:Nat}(hi:i<l.length):∃b o,a=some ⟨b,o,none⟩/\∀i x,l[i]?=some x ->R.At C b (o+i*R.sz) x:=by
 rcases h.2 with f|d
 ·omega
 ·exact d
def tT(R:Rd α):Rd (List α) where
 sz:=1
 den C cs l:=∃a cap,cs=[.slice a l.length cap]/\Sl R C a l
 len:=by rintro C cs x ⟨a,cap,rfl,_⟩;rfl
 mono:=by rintro C C' cs x hc ⟨a,cap,rfl,h⟩;exact⟨a,cap,rfl,h.mono hc⟩
 one:=by rintro C cs x ⟨a,cap,rfl,h⟩ u hu;simp at hu;subst hu;rfl
end
def wv':Rd Int where
 sz:=1
 den _ cs x:=cs=[.int .i64 x]/\I64 x
 len:=by rintro _ cs x ⟨rfl,_⟩;rfl
 mono:=by rintro _ _ cs x _ h;exact h
 one:=by rintro _ cs x ⟨rfl,_⟩ u hu;simp at hu;subst hu;rfl
def rBool:Rd Bool where
 sz:=1
 den _ cs x:=cs=[.bool x]
 len:=by rintro _ cs x rfl;rfl
 mono:=by rintro _ _ cs x _ h;exact h
 one:=by rintro _ cs x rfl u hu;simp at hu;subst hu;rfl
def rU8:Rd Nat where
 sz:=1
 den _ cs x:=cs=[.int .u8 (x:Int)]/\x<256
 len:=by rintro _ cs x ⟨rfl,_⟩;rfl
 mono:=by rintro _ _ cs x _ h;exact h
 one:=by rintro _ cs x ⟨rfl,_⟩ u hu;simp at hu;subst hu;rfl
theorem Sl.sl{α:Type}{R:Rd α}{C:Mem}{a:Option Addr}{l:List (List α)}(h:Sl (tT R) C a l){i:Nat}{x:List α}(hi:l[i]?=some x):
  ∃b o,a=some ⟨b,o,none⟩/\∃d cap,C b (o+i*1) (.slice d x.length cap)/\Sl R C d x:=by
 obtain⟨b,o,f,g⟩:=h.at (List.getElem?_eq_some_iff.1 hi).1;obtain⟨m,⟨d,cap,rfl,hs⟩,j⟩:=g i x hi;exact⟨b,o,f,d,cap,j 0 _ rfl,hs⟩
theorem Cx{C:Mem}{w:World}(hs:Sub C w){b o:Nat}{v:Value}{k:Value ->Prop}(h:C b o v)(d:k v):EvLd w ⟨b,o,none⟩ k:=ld (hs b o v h).cell d
def All2{α β:Type}(p:β ->α ->Prop):List β ->List α ->Prop
 |[],[]=>True
 |b::bs,a::aes=>p b a/\All2 p bs aes
 |_,_=>False
section
variable{α β:Type}{p q:β ->α ->Prop}
theorem All2.length:∀{l:List β} {m:List α},All2 p l m ->l.length=m.length
 |[],[],_=>rfl
 |_::_,_::_,h=>by simp[All2.length h.2]
 |[],_::_,h=>h.elim
 |_::_,[],h=>h.elim
theorem All2.mono(d:∀b a,p b a ->q b a):∀{l:List β} {m:List α},All2 p l m ->All2 q l m
 |[],[],_=>trivial
 |_::_,_::_,h=>⟨d _ _ h.1,All2.mono d h.2⟩
 |[],_::_,h=>h.elim
 |_::_,[],h=>h.elim
theorem All2.append:∀{l:List β} {m:List α} {l':List β} {m':List α},All2 p l m ->All2 p l' m' ->All2 p (l++l') (m++m')
 |[],[],_,_,_,d=>d
 |_::_,_::_,_,_,h,d=>⟨h.1,All2.append h.2 d⟩
 |[],_::_,_,_,h,_=>h.elim
 |_::_,[],_,_,h,_=>h.elim
theorem All2.get:∀{l:List β} {m:List α} {i:Nat} {a:α},All2 p l m ->m[i]?=some a ->∃b,l[i]?=some b/\p b a
 |[],[],i,a,_,h=>by simp at h
 |b::_,_::_,0,a,h,hi=>by simp at hi;subst hi;exact⟨b,rfl,h.1⟩
 |_::_,_::_,i+1,a,h,hi=>by simpa using All2.get h.2 (by simpa using hi)
 |[],_::_,_,_,h,_=>h.elim
 |_::_,[],_,_,h,_=>h.elim
end
theorem pP{α:Type}{k:Nat}:∀(css:List (List α)),(∀cs∈css,cs.length=k) ->css.flatten.length=css.length*k
 |[],_=>Ud
 |cs::r,h=>by
  have:=pP r λc d=>h c (by simp[d]);simp only[List.flatten_cons,List.length_append,List.length_cons,this,h cs Ud,Nat.add_mul];omega
theorem pQ{α:Type}{k:Nat}:∀(css:List (List α)),(∀cs∈css,cs.length=k) ->∀(i j:Nat) (cs:List α) (v:α),css[i]?=some cs ->cs[j]?=some v ->css.flatten[i*k+j]?=some v
 |[],_,i,j,cs,v,h1,_=>by simp at h1
 |c::r,h,0,j,cs,v,h1,h2=>by
  simp at h1;subst h1;have f:=(List.getElem?_eq_some_iff.1 h2).1;rw[List.flatten_cons,Nat.zero_mul,Nat.zero_add,List.getElem?_append_left f];exact h2
 |c::r,h,i+1,j,cs,v,h1,h2=>by
  have d:=h c Ud;have:=pQ r (λc d=>h c (by simp[d])) i j cs v (by simpa using h1) h2;rw[List.flatten_cons,List.getElem?_append_right (by rw[d,Nat.add_mul];omega)];rw[show (i+1)*k+j-c.length=i*k+j by rw[d,Nat.add_mul];omega];exact this
def Dn(lo:Nat)(v:Value)(w:World):Mem:=λb o u=>lo<=b/\some b≠v.ownBlock/\Cu w.heap b o u
structure Own{α:Type}(R:Rd α)(e lo:Nat)(w:World)(v:Value)(l:List α):Prop where
 row:∃css:List (List Value),w.ownsRow lo e R.sz v l.length css.flatten/\All2 (R.den (Dn lo v w)) css l
 low:lo<=w.heap.size
section
variable{α:Type}{R:Rd α}{e lo:Nat}{w w':World}{v:Value}{l:List α}
theorem Own.nil(R:Rd α)(e:Nat){lo:Nat}{w:World}(h:lo<=w.heap.size):Own R e lo w (.slice none 0 0) []:=⟨⟨[],⟨Ud,.inl ⟨rfl,rfl⟩⟩,trivial⟩,h⟩
theorem Own.empty(R:Rd α){e lo:Nat}{w:World}{b:Nat}(hb:Bk w.heap b [] e)(h:lo<=b):Own R e lo w (.slice (some ⟨b,0,none⟩) 0 0) []:=
 ⟨⟨[],Cw (n:=0) hb h Ud (by simp[maxLen]),trivial⟩,Nat.le_trans h (Nat.le_of_lt hb.lt)⟩
theorem Own.block(h:Own R e lo w v l):∀g,v.ownBlock=some g ->lo<=g/\g<w.heap.size:=by
 intro g d;obtain⟨f,i,_⟩:=h.row;rcases i.2 with ⟨rfl,_⟩|⟨u,cap,j,rfl,m,r,_⟩
 ·cases d
 ·simp[Value.ownBlock]at d
  subst d;exact⟨m,(Array.getElem?_eq_some_iff.1 r).1⟩
theorem Own.kp(h:Own R e lo w v l)(k:Kp [] w w'):Own R e lo w' v l:=by
 obtain⟨⟨d,g,i⟩,j⟩:=h;exact⟨⟨d,xA g k Ud,i.mono λr x m=>R.mono (λb o u f=>⟨f.1,f.2.1,f.2.2.kp k Ud⟩) m⟩,Nat.le_trans j k.size⟩
theorem Kp.own{w0:World}(k0:Kp [] w0 w)(k:Kp v.ownBlock.toList w w')(h:Own R e w0.heap.size w v l):Kp [] w0 w':=
 k0.trans k λx d f=>by
  have d:v.ownBlock=some x:=by simpa using d
  have:=(h.block x d).1;omega
theorem Own.den(h:Own R e lo w v l)(hl:l.length<=1099511627776):∃a cap,v= .slice a l.length cap/\Sl R (New lo w) a l:=by
 obtain⟨⟨d,I,z⟩,Y⟩:=h;have F:=z.length;have L:∀f∈d,f.length=R.sz:=by
  intro f B;obtain⟨i,H⟩:=List.getElem?_of_mem B;have M:=(List.getElem?_eq_some_iff.1 H).1;obtain⟨N,m,D⟩:=z.get (i:=i) (a:=l[i]' Uo) Ud;rw[H]at m;obtain rfl:=Option.some.inj m;exact R.len D
 rcases I.2 with ⟨rfl,O⟩|⟨g,cap,E,rfl,Q,U,Z,hm,hc,V⟩
 ·have:l=[]:=List.length_eq_zero_iff.1 O
  subst this;exact⟨none,0,rfl,Sl.nil _ _ _⟩
 ·refine⟨_,cap,rfl,hl,.inr ⟨g,0,rfl,λi x W=>?_⟩⟩
  obtain⟨f,m,D⟩:=z.get W;refine⟨f,R.mono (λb o u r=>⟨r.1,r.2.2⟩) D,λj u r=>⟨Q,E,e,U,?_⟩⟩;have:=pQ d L i j f u m r;rw[<- V,List.getElem?_take]at this;split at this
  ·rw[Nat.zero_add];simpa using this
  ·cases this
theorem Own.ap{P:Program}{τ:Tau}(hτ:aS P τ){T bs:Nat}(hs:look τ.slcs T=some (e,R.sz,bs)){z:List Value}(hz:τ.zero e=some z)(hsz:0<R.sz){k:Value ->World ->Prop}{m c ty:Nat}{a:Option Addr}
  (h:Own R e lo w v l) (xs:List α) (css:List (List Value)) (hm:xs.length=m) (F:All2 (R.den (Dn lo v w)) css xs) (hc:m=0 \/∃b o,a=some ⟨b,o,none⟩/\∀i x j u,css[i]?=some x ->x[j]?=some u ->Cl w.heap b (o+i*R.sz+j) u)
  (E:(l.length+m)*bs<=140737488355328) (a3:l.length+m<=maxLen)
  (hk:∀I w',Own R e lo w' I (l++xs) ->Kp v.ownBlock.toList w w' ->(I.ownBlock=v.ownBlock \/I.ownBlock=some w.heap.size) ->k I w'):EvRun P (Builtin.append_ #[T,T] ty #[v,.slice a m c]) w k:=by
 have Y:=h;obtain⟨⟨g,h1,h2⟩,r⟩:=h;obtain⟨f,a4,d,B,a5⟩:=hτ.slcs T e R.sz bs hs;obtain⟨D,v0,L,hv,a6,Z⟩:=mA hτ hz;have:D=a4:=by rw[L]at d;simpa using d
 subst this;have a7:v0.cells.size=R.sz:=by rw[a6,<- B,Z];simp
 have a0:=F.length;have M:∀cs∈css,cs.length=R.sz:=by
  intro cs N;obtain⟨i,U⟩:=List.getElem?_of_mem N;have a8:=(List.getElem?_eq_some_iff.1 U).1;obtain⟨a9,h4,V⟩:=F.get (i:=i) (a:=xs[i]' Uo) Ud;rw[U]at h4;obtain rfl:=Option.some.inj h4;exact R.len V
 have a1:∀u∈css.flatten,u.oneCell'=true:=by
  intro u f;obtain⟨cs,N,f⟩:=List.mem_flatten.1 f;obtain⟨i,U⟩:=List.getElem?_of_mem N;have a8:=(List.getElem?_eq_some_iff.1 U).1;obtain⟨a9,h4,V⟩:=F.get (i:=i) (a:=xs[i]' Uo) Ud;rw[U]at h4;obtain rfl:=Option.some.inj h4;exact R.one V u f
 have O:css.flatten.length=m*R.sz:=by rw[pP css M,a0,hm]
 have go:∀W,a=some W ->(∀j u,css.flatten[j]?=some u ->w.cell? (W.add j)=some u) ->EvRun P (Builtin.append_ #[T,T] ty #[v,.slice a m c]) w k:=λW ha hn=>by
  subst ha;obtain⟨I,w',hr,ho,hg,_,H⟩:=run_append_own_at (P:=P) w lo T ty e D v0 R.sz bs f d hv B a5 a7 hsz v l.length g.flatten h1 W m c css.flatten O hn a1 a3 E r;have Q:=ru hg;refine run hr (hk I w' ⟨⟨g++css,?_,?_⟩,Nat.le_trans r Q.size⟩ Q H)
  ·rw[List.flatten_append,List.length_append,hm]
   exact ho
  ·have step:∀b o u,Dn lo v w b o u ->Dn lo I w' b o u:=λb o u f=>by
    refine⟨f.1,?_,f.2.2.kp Q (by simpa using λe=>f.2.1 e.symm)⟩;rcases H with e1|e1
    ·rw[e1];exact f.2.1
    ·rw[e1]
     have:=f.2.2.lt;intro e2;have:=Option.some.inj e2;omega
   exact(h2.mono λcs x F=>R.mono step F).append (F.mono λcs x F=>R.mono step F)
 rcases hc with h0|⟨b,o,rfl,hn⟩
 ·subst h0
  have a':css.flatten=[]:=List.eq_nil_of_length_eq_zero (by simpa using O);cases a with
  |some W=>exact go W rfl (by simp[a'])
  |none=>
   have b0:xs=[]:=List.length_eq_zero_iff.1 hm;refine run (xB T ty e D f d v l.length g.flatten h1 c) (hk v w ?_ ((Kp.refl [] w).weak Ud) (.inl rfl));subst b0
   simpa using Y
 ·refine go _ rfl λj u hj=>?_
  have b1:j<m*R.sz:=by rw[<- O];exact(List.getElem?_eq_some_iff.1 hj).1
  have U:j/R.sz<css.length:=by rw[a0,hm];exact(Nat.div_lt_iff_lt_mul hsz).2 b1
  have hr:j%R.sz<R.sz:=Nat.mod_lt _ hsz;have b2:=M css[j/R.sz] Ud;have V:=pQ css M (j/R.sz) (j%R.sz) css[j/R.sz] (css[j/R.sz][j%R.sz]' Uo) Ud Ud;have a2:=Nat.div_add_mod' j R.sz;rw[a2,hj]at V;have h6:=hn (j/R.sz) css[j/R.sz] (j%R.sz) u Ud (by rw[V];simp);rw[show (⟨b,o,none⟩:Addr).add j=⟨b,o+j,none⟩ by unfold Addr.add;split<;>simp_all];rw[Nat.add_assoc,a2]at h6;exact h6.cell
theorem Own.ap1{P:Program}{τ:Tau}(hτ:aS P τ){T bs:Nat}(hs:look τ.slcs T=some (e,R.sz,bs)){z:List Value}(r:τ.zero e=some z)(hsz:0<R.sz){k:Value ->World ->Prop}{c ty b o:Nat}
  (h:Own R e lo w v l) (x:α) (cs:List Value) (B:R.den (Dn lo v w) cs x) (hc:∀j u,cs[j]?=some u ->Cl w.heap b (o+j) u)
  (d:(l.length+1)*bs<=140737488355328) (g:l.length+1<=maxLen)
  (D:∀f w',Own R e lo w' f (l++[x]) ->Kp v.ownBlock.toList w w' ->(f.ownBlock=v.ownBlock \/f.ownBlock=some w.heap.size) ->k f w'):EvRun P (Builtin.append_ #[T,T] ty #[v,.slice (some ⟨b,o,none⟩) 1 c]) w k:=
 h.ap hτ hs r hsz [x] [cs] rfl ⟨B,trivial⟩ (.inr ⟨b,o,rfl,λi y j u m E=>by
  match i with
  |0=>
   simp at m;subst m;rw[Nat.zero_mul,Nat.add_zero];exact hc j u E
  |i+1=>simp at m⟩) d g D
end
theorem gE{α:Type}{l:List α}{i:Nat}(h:i<l.length:=by omega):l[i]?=some l[i]:=List.getElem?_eq_getElem h
theorem ay{α:Type}{l:List α}{k:Nat}(h:k<l.length:=by omega):∃x,l[k]?=some x/\l.drop k=x::l.drop (k+1):=
 ⟨l[k],Ud,List.drop_eq_getElem_cons h⟩
theorem dB{α:Type}{l:List α}{k:Nat}{x:α}(h:l[k]?=some x):l.take (k+1)=l.take k++[x]:=by
 rw[List.take_add_one,h]
 rfl
theorem aM{α:Type}{l:List α}{k:Nat}{x:α}(h:l[k]?=some x):k<l.length:=(List.getElem?_eq_some_iff.1 h).1
def Hp':Array Bool ->List Nat ->Array Bool
 |a,[]=>a
 |a,i::r=>Hp' (a.setIfInBounds i true) r
def Ig(l:Array Oper):Array Bool ->List Nat ->Bool
 |_,[]=>true
 |listed,i::r=>Region.free .any l listed i && ((Region.ready .any l listed).contains i && Ig l (listed.setIfInBounds i true) r)
def picks(l:Array Oper):List Nat ->List Oper ->Prop
 |[],[]=>True
 |i::r,o::os=>l[i]?=some o/\plainOp' o.op=true/\picks l r os
 |_,_=>False
where
 plainOp':Op ->Bool
 | .move .. | .assign .. | .load .. | .fieldAddr .. | .indexAddr .. | .binOp .. | .unOp .. | .convert .. | .extract .. | .build .. | .pick .. | .field .. | .slice .. | .nilCheck .. =>true
 | .call c=>match c.callee with
  | .builtin .len=>true
  | .builtin .min=>true
  | .builtin .max=>true
  |_=>false
 |_=>false
section
variable{P:Program}{τ:Tau}{n:Nat}{S:World ->Prop}{l:List Oper}{K:Exit ->St ->World ->Prop}{s:St}{w:World}
def Cy(l:List Oper)(is:List Nat):List Oper:=
 List.rec (motive:=λ_=>List Oper) [] (λi _ ih=>match fh l i with
  |some o=>o::ih
  |none=>ih) is
def xC(l:List Oper)(is:List Nat):Bool:=
 List.rec (motive:=λ_=>Bool) true (λi _ ih=>match fh l i with
  |some o=>picks.plainOp' o.op && ih
  |none=>false) is
end
section
variable{P:Program}{w:World}{k:Value ->World ->Prop}{kq:Value ->Prop}{C:World ->Prop}{ts:Array TypeId}{t:TypeId}{x y:Int}
theorem Ih(w:World):(Builtin.max_ ts t #[.int .i64 x,.int .i64 y]).run P w= .ok (.int .i64 (max x y)) w:=by
 rw[run_max_int2]
 congr 2
 split<;>omega
theorem Ii(w:World):(Builtin.min_ ts t #[.int .i64 x,.int .i64 y]).run P w= .ok (.int .i64 (min x y)) w:=by
 rw[run_min_int2]
 congr 2
 split<;>omega
theorem Ij(d:0<=x)(f:x<=9223372036854775807)(h:0<y)(w:World):(binOp .quo t (.int .i64 x) (.int .i64 y)).run P w= .ok (.int .i64 (x/y)) w:=by
 have i:0<=x/y:=Int.ediv_nonneg d Uo;have j:x/y<=x:=Int.ediv_le_self y d;have g:=IntWalk.i64_in (x/y) Uo;simp[binOp_quo,Op.intDiv,Int.tdiv_eq_ediv_of_nonneg d,g,show ¬ y=0 by omega]
theorem Ik(d:0<=x)(f:0<y)(w:World):(binOp .rem t (.int .i64 x) (.int .i64 y)).run P w= .ok (.int .i64 (x%y)) w:=by
 simp[binOp_rem,Op.intDiv,Int.tmod_eq_emod_of_nonneg d,show ¬ y=0 by omega]
theorem Il(f:0<=x)(d:x<=9223372036854775807)(g:0<y)(h:k (.int .i64 (x/y)) w):EvRun P (binOp .quo t (.int .i64 x) (.int .i64 y)) w k:=run (Ij f d g w) h
theorem In(d:0<=x)(f:0<y)(h:k (.int .i64 (x%y)) w):EvRun P (binOp .rem t (.int .i64 x) (.int .i64 y)) w k:=run (Ik d f w) h
end
section
variable{P:Program}{τ:Tau}{n:Nat}{a b c:Code}{s:St}{w:World}{K:Exit ->St ->World ->Prop}
theorem Io(hτ:aS P τ)(h:jV P τ n c s w K):EvCode P n c s w K:=by
 unfold EvCode;exact λa d=>mC hτ c s w K h a d
theorem Ip{σ:Type}(I:σ ->List (Nat×Value))(R:σ ->World ->Prop)(μ:σ ->Nat)(x0:σ)
  (f:s.d=[]) (B:Has s (I x0)) (D:R x0 w)
  (cf:∀x w,R x w ->EvCode P n c ⟨I x,[]⟩ w (tN (λs' w'=>∃y,μ y<μ x/\s'.d=[]/\Has s' (I y)/\R y w') K)):EvCode P n (.loop c) s w K:=by
 unfold EvCode;intro a E;have g:∀h s',Fr n h s' ->s'.d=[] ->∀y,Has s' (I y) ->Fr n h ⟨I y,[]⟩:=λh s' d f y F=>
  ⟨d.size,by rw[d.defers,f],λt v H=>d.has t v (F.get t v H)⟩
 refine wp_loop_ghost (λy a w=>Fr n a ⟨I y,[]⟩/\R y w) μ x0 ⟨g a s E f x0 B,D⟩ ?_;intro y a w ⟨i,j⟩;have u:=cf y w j;unfold EvCode at u;refine Go.wp_mono (u a i) λe h w' L=>?_;obtain⟨s',d,hs⟩:=L;cases e with
 |normal=>
  obtain⟨z,m,f,M,r⟩:=hs;exact⟨z,⟨g h s' d f z M,r⟩,m⟩
 |exit id=>exact⟨s',d,hs⟩
 |goto l=>exact⟨s',d,hs⟩
 |ret=>exact⟨s',d,hs⟩
 |panic N=>exact⟨s',d,hs⟩
 |outgrown=>exact⟨s',d,hs⟩
theorem lp(hτ:aS P τ){σ:Type}(I:σ ->List (Nat×Value))(R:σ ->World ->Prop)(μ:σ ->Nat)(x0:σ)
  (d:s.d=[]) (f:Has s (I x0)) (g:R x0 w)
  (cf:∀x w,R x w ->jV P τ n c ⟨I x,[]⟩ w (tN (λs' w'=>∃y,μ y<μ x/\s'.d=[]/\Has s' (I y)/\R y w') K)):EvCode P n (.loop c) s w K:=
 Ip I R μ x0 d f g λx w h=>Io hτ (cf x w h)
end
theorem wrap64{x:Int}(d:0<=x)(h:x<18446744073709551616):IntKind.wrap .u64 x=x:=by
 simp only[IntKind.wrap,IntKind.bits,IntKind.signed];simp;omega
section
variable{P:Program}{k:Value ->World ->Prop}{kq:Value ->Prop}{C:World ->Prop}{t:TypeId}{w:World}
theorem u64{r:Int}{k:Value ->Prop}(h1:0<=r)(h2:r<18446744073709551616)(d:k (.int .u64 r)):EvInt .u64 r k:=pL r (wrap64 h1 h2) d
theorem oP{b o h cap sz:Nat}:sliced (some ⟨b,o,none⟩) 0 h cap sz= .slice (some ⟨b,o,none⟩) h cap:=by
 simp only[sliced,Option.map_some,pN,Nat.zero_mul,Nat.add_zero,Nat.sub_zero];split<;>rfl
section
variable{τ:Tau}(hτ:aS P τ){T e sz bs:Nat}(hs:look τ.slcs T=some (e,sz,bs)){a:Option Addr}{len cap:Nat}
include hτ hs
theorem nL{j:IntKind}{i:Int}(h:Nat)(v:Value)(hi:i=h)(hl:h<=cap)(d:sliced a 0 h cap sz=v)(f:k v w):EvRun P (Instr.sliceAt T (.slice a len cap) none (some (.int j i)) none) w k:=by
 subst d;exact rt hτ hs h hi hl f
end
end
def Iq(md:Region.Mode)(ops:Array Oper)(j:Nat):Bool:=
 match ops[j]? with
 |some o=>(List.range ops.size).all λk=>k==j||o.after.any λe=>Region.binds md e && e.on==k
 |none=>false
def Cz(P:Program)(md:Region.Mode)(ops:Array Oper)(Q:Exit ->Act ->World ->Prop)(S:World ->Prop):Nat ->Array Bool ->Act ->World ->Prop
 |0,listed,a,w=>Region.ready md ops listed=[]/\Q .normal a w
 |fuel+1,listed,a,w=>(Region.ready md ops listed=[] ->Q .normal a w)/\
  ∀i∈Region.ready md ops listed,wpOp P ops Q i (λa' w'=>(S w' \/Iq md ops i=true)/\Cz P md ops Q S fuel (listed.setIfInBounds i true) a' w') a w
@[irreducible] def EvAnyG (P:Program) (n:Nat) (S:World ->Prop) (l:List Oper) (K:Exit ->St ->World ->Prop) (fuel:Nat) (listed:Array Bool) (s:St) (w:World):Prop:=
 ∀a,Fr n a s ->Cz P .any l.toArray (xz n K) S fuel listed a w
def xD(md:Region.Mode)(ops:Array Oper):Nat ->Nat ->Nat ->Bool
 |0,j,k=>match ops[j]? with
  |some o=>o.after.any λe=>Region.binds md e && e.on==k
  |none=>false
 |d+1,j,k=>match ops[j]? with
  |some o=>o.after.any λe=>Region.binds md e && (e.on==k||xD md ops d e.on k)
  |none=>false
def Ir(md:Region.Mode)(ops:Array Oper)(j:Nat):Bool:=
 match ops[j]? with
 |some o=>(List.range ops.size).all λk=>(k==j||o.after.any λe=>Region.binds md e && (e.on==k||xD md ops 12 e.on k))||xD md ops 12 k j
 |none=>false
def ClsV(md:Region.Mode)(ops:Array Oper)(listed:Array Bool):Prop:=∀(k:Nat) o,ops[k]?=some o ->listed.getD k false=true ->∀e∈o.after,Region.binds md e=true ->listed.getD e.on false=true
theorem CA{d:Array Bool}{j x:Nat}(h:d.getD x false=true):(d.setIfInBounds j true).getD x false=true:=by
 by_cases f:j=x
 ·subst f
  by_cases g:j<d.size
  ·simp[g]
  ·simp[g]at h
 ·rw[getD_set_ne false f]
  exact h
theorem ClsV.set{m:Region.Mode}{f:Array Oper}{d:Array Bool}{j:Nat}(h:ClsV m f d)(E:j∈Region.ready m f d):ClsV m f (d.setIfInBounds j true):=by
 intro k o r z e B D;obtain⟨F,H,u,g⟩:=mem_ready.1 E
 by_cases i:j=k
 ·subst i
  rw[u]at r;obtain rfl:=Option.some.inj r;exact CA (g e B D)
 ·rw[getD_set_ne false i]at z
  exact CA (h k o r z e B D)
def xE(P:Program)(md:Region.Mode)(ops:Array Oper)(Q:Exit ->Act ->World ->Prop)(S:World ->Prop):Nat ->Array Bool ->Act ->World ->Prop
 |0,listed,a,w=>Region.ready md ops listed=[]/\Q .normal a w
 |fuel+1,listed,a,w=>(Region.ready md ops listed=[] ->Q .normal a w)/\
  ∀i∈Region.ready md ops listed,wpOp P ops Q i (λa' w'=>(S w' \/Ir md ops i=true)/\xE P md ops Q S fuel (listed.setIfInBounds i true) a' w') a w
@[irreducible] def EvAnyV (P:Program) (n:Nat) (S:World ->Prop) (l:List Oper) (K:Exit ->St ->World ->Prop) (fuel:Nat) (listed:Array Bool) (s:St) (w:World):Prop:=
 ClsV .any l.toArray listed ->∀a,Fr n a s ->xE P .any l.toArray (xz n K) S fuel listed a w
inductive PV where
 |int (k:IntKind) (n:Int)
 |bool (b:Bool)
 |sl (l:List (List PV))
 |agg (cs:List PV)
 |tup (l:List PV)
 |raw (v:Value)
  |unk
  |bd (f:FuncId) (x:PV)
inductive RV (C:Mem):PV ->Value ->Prop
 |int (k:IntKind) (n:Int):RV C (.int k n) (.int k n)
 |bool (b:Bool):RV C (.bool b) (.bool b)
 |raw (v:Value):RV C (.raw v) v
 |unk (n:Int):RV C .unk (.int .i64 n)
 |bd (f:FuncId) (x:PV) (u:Value) (h:RV C x u):RV C (.bd f x) (.func (.func f) #[u] #[])
 |nil (a:Option Addr) (c:Nat):RV C (.sl []) (.slice a 0 c)
 |sl (l:List (List PV)) (sz b o c:Nat) (f:Nat ->Nat ->Value) (hsz:∀x∈l,x.length=sz) (hc:l.length<=c)
   (h:∀(i j:Nat) x y,l[i]?=some x ->x[j]?=some y ->C b (o+i*sz+j) (f i j)) (hr:∀(i j:Nat) x y,l[i]?=some x ->x[j]?=some y ->RV C y (f i j)):RV C (.sl l) (.slice (some ⟨b,o,none⟩) l.length c)
 |agg (cs:List PV) (us:List Value) (hl:us.length=cs.length) (h:∀(i:Nat) y u,cs[i]?=some y ->us[i]?=some u ->RV C y u):RV C (.agg cs) (.agg us.toArray)
 |tup (cs:List PV) (us:List Value) (hl:us.length=cs.length) (h:∀(i:Nat) y u,cs[i]?=some y ->us[i]?=some u ->RV C y u):RV C (.tup cs) (.tuple us.toArray)
theorem RV.mono{C D:Mem}(hc:∀b o v,C b o v ->D b o v){x:PV}{v:Value}(h:RV C x v):RV D x v:=by
 induction h with
 |int k n=>exact .int k n
 |bool b=>exact .bool b
 |raw v=>exact .raw v
 |unk n=>exact .unk n
 |bd f x u h d=>exact .bd f x u d
 |nil a c=>exact .nil a c
 |sl l sz b o c f g m h H d=>exact .sl l sz b o c f g m (λi j x y E F=>hc _ _ _ (h i j x y E F)) d
 |agg r z B h d=>exact .agg r z B d
 |tup r z B h d=>exact .tup r z B d
def PV.one:PV ->Bool
 | .int _ _=>true
 | .bool _=>true
 | .sl _=>true
 | .raw v=>v.oneCell'
 | .unk=>true
 | .bd _ _=>true
 |_=>false
theorem RV.one{C:Mem}{x:PV}{v:Value}(h:RV C x v)(d:x.one=true):v.oneCell'=true:=by
 cases h with
 |int k n=>rfl
 |bool b=>rfl
 |raw v=>exact d
 |unk n=>rfl
 |bd f x u h=>rfl
 |nil a c=>rfl
 |sl l sz b o c f g i h z=>rfl
 |agg j m r h=>cases d
 |tup j m r h=>cases d
inductive AC where
 |p (x:PV)
 |row (k:Nat)
 |ptr (k o:Nat)
 |ep (cs:List PV) (o:Nat)
 |rp (k sz j o:Nat)
 |fn (f:FuncId) (ks:List Nat)
  |fr (u:Value) (f:FuncId) (ks:List Nat)
  |cl (l:List (List PV))
  |rv (u:Value) (k:Nat)
inductive AV where
 |c (x:AC)
 |agg (cs:List AC)
 |tp (cs:List AC)
inductive SE where
 |st (g:Nat) (T:Nat) (cs:List AC)
 |rw(e sz:Nat) (l:List (List PV))
 |fz (l:List (List PV))
 |ob (g:Nat) (Q:Obj ->Prop)
 |dead
structure AS where
 e:List (Nat×AV)
 m:List (Nat×SE)
def AC.refs:AC ->List Nat
 | .row k=>[k]
 | .ptr k _=>[k]
 | .rp k _ _ _=>[k]
 | .fn _ ks=>ks
 | .fr _ _ ks=>ks
 | .rv _ k=>[k]
 |_=>[]
def refsL(l:List AC):List Nat:=List.rec (motive:=λ_=>List Nat) [] (λx _ ih=>x.refs++ih) l
def AV.refs:AV ->List Nat
 | .c x=>x.refs
 | .agg cs=>refsL cs
 | .tp cs=>refsL cs
def SE.mut:SE ->Bool
 | .st _ _ _=>true
 | .rw _ _ _=>true
 | .ob _ _=>true
 |_=>false
def SE.alive:SE ->Bool
 | .dead=>false
 |_=>true
def SE.refs:SE ->List Nat
 | .st _ _ cs=>refsL cs
 |_=>[]
def Lv(A:AS)(l:List Nat):Prop:=∀k∈l,∃x,look A.m k=some x/\x.alive=true
def blk:Value ->Option Nat
 | .slice (some a) _ _=>some a.block
 | .pointer (some a)=>some a.block
 | .map (some b)=>some b
 |_=>none
theorem mD{w:World}{base e sz n:Nat}{v:Value}{xs:List Value}(h:w.ownsRow base e sz v n xs):blk v=v.ownBlock:=by
 rcases h.2 with ⟨rfl,_⟩|⟨g,cap,d,rfl,_⟩<;>rfl
def RC(C:Mem)(ρ:Nat ->Value):AC ->Value ->Prop
 | .p x,v=>RV C x v
 | .row k,v=>v=ρ k
 | .ptr k o,v=>∃b,ρ k= .pointer (some ⟨b,0,none⟩)/\v= .pointer (some ⟨b,o,none⟩)
 | .ep cs o,v=>∃(b o0:Nat) (f:Nat ->Value),v= .pointer (some ⟨b,o0+o,none⟩)/\∀(j:Nat) y,cs[j]?=some y ->C b (o0+j) (f j)/\RV C y (f j)
 | .rp k sz j o,v=>∃b n c,ρ k= .slice (some ⟨b,0,none⟩) n c/\v= .pointer (some ⟨b,j*sz+o,none⟩)
 | .fn f ks,v=>v= .func (.func f) #[] (ks.map ρ).toArray
 | .fr u f ks,v=>v=u/\v= .func (.func f) #[] (ks.map ρ).toArray
 | .rv u k,v=>v=u/\v=ρ k
 | .cl l,v=>RV C (.sl l) v/\∃a,v= .slice a l.length l.length
def RA(C:Mem)(ρ:Nat ->Value):AV ->Value ->Prop
 | .c x,v=>RC C ρ x v
 | .agg cs,v=>∃us:List Value,v= .agg us.toArray/\us.length=cs.length/\∀(i:Nat) c u,cs[i]?=some c ->us[i]?=some u ->RC C ρ c u
 | .tp cs,v=>∃us:List Value,v= .tuple us.toArray/\us.length=cs.length/\∀(i:Nat) c u,cs[i]?=some c ->us[i]?=some u ->RC C ρ c u
theorem RC.mono{C D:Mem}{ρ:Nat ->Value}(hc:∀b o v,C b o v ->D b o v){x:AC}{v:Value}(h:RC C ρ x v):RC D ρ x v:=by
 cases x with
 |p x=>exact RV.mono hc h
 |row k=>exact h
 |ptr k o=>exact h
 |ep z o=>
  obtain⟨b,i,f,m,d⟩:=h;exact⟨b,i,f,m,λj y g=>⟨hc _ _ _ (d j y g).1,(d j y g).2.mono hc⟩⟩
 |rp k sz j o=>exact h
 |fn f r=>exact h
 |fr u f r=>exact h
 |rv u k=>exact h
 |cl l=>exact⟨h.1.mono hc,h.2⟩
theorem RC.eqv{C:Mem}{ρ ρ':Nat ->Value}{x:AC}{v:Value}(h:RC C ρ x v)(he:∀k∈x.refs,ρ' k=ρ k):RC C ρ' x v:=by
 cases x with
 |p x=>exact h
 |row k=>exact Eq.trans h (he k (by simp[AC.refs])).symm
 |ptr k o=>simp only[RC]at h ⊢;rw[he k (by simp[AC.refs])];exact h
 |ep i o=>exact h
 |rp k sz j o=>simp only[RC]at h ⊢;rw[he k (by simp[AC.refs])];exact h
 |fn f d=>simp only[RC]at h ⊢;rw[h,List.map_congr_left (l:=d) λk g=>(he k g).symm]
 |fr u f d=>exact⟨h.1,h.2.trans (by rw[List.map_congr_left (l:=d) λk g=>(he k g).symm])⟩
 |rv u k=>exact⟨h.1,Eq.trans h.2 (he k (by simp[AC.refs])).symm⟩
 |cl l=>exact h
theorem jW{l:List AC}{x:AC}(h:x∈l){k:Nat}(d:k∈x.refs):k∈refsL l:=by
 induction l with
 |nil=>cases h
 |cons y r f=>
  show k∈y.refs++refsL r;rcases List.mem_cons.1 h with rfl|h
  ·exact List.mem_append_left _ d
  ·exact List.mem_append_right _ (f h)
theorem RA.mono{C D:Mem}{ρ:Nat ->Value}(hc:∀b o v,C b o v ->D b o v){x:AV}{v:Value}(h:RA C ρ x v):RA D ρ x v:=by
 cases x with
 |c x=>exact RC.mono hc h
 |agg z=>
  obtain⟨d,f,g,j⟩:=h;exact⟨d,f,g,λi c u m r=>(j i c u m r).mono hc⟩
 |tp z=>
  obtain⟨d,f,g,j⟩:=h;exact⟨d,f,g,λi c u m r=>(j i c u m r).mono hc⟩
theorem RA.eqv{C:Mem}{ρ ρ':Nat ->Value}{x:AV}{v:Value}(h:RA C ρ x v)(he:∀k∈x.refs,ρ' k=ρ k):RA C ρ' x v:=by
 cases x with
 |c x=>exact RC.eqv h he
 |agg B=>
  obtain⟨f,g,j,m⟩:=h;exact⟨f,g,j,λi c u d r=>(m i c u d r).eqv λk z=>he k (jW (List.mem_of_getElem? d) z)⟩
 |tp B=>
  obtain⟨f,g,j,m⟩:=h;exact⟨f,g,j,λi c u d r=>(m i c u d r).eqv λk z=>he k (jW (List.mem_of_getElem? d) z)⟩
def Ori(lo:Nat)(X:List Nat)(g b:Nat):Prop:=g=0/\lo<=b \/∃i,g=i+1/\X[i]?=some b
theorem Ori.or{lo:Nat}{X:List Nat}{g b:Nat}(h:Ori lo X g b):lo<=b \/b∈X:=h.imp (·.2) λ⟨_,_,h⟩=>List.mem_of_getElem? h
def CB(lo:Nat)(X:List Nat)(w:World)(e sz:Nat)(v:Value)(n:Nat)(xs:List Value):Prop:=w.ownsRow 0 e sz v n xs/\∀g,blk v=some g ->lo<=g \/g∈X
theorem CD{w:World}{base d e sz n:Nat}{v:Value}{xs:List Value}(h:w.ownsRow base e sz v n xs)(hb:d<=base):w.ownsRow d e sz v n xs:=by
 obtain⟨j,f⟩:=h;refine⟨j,?_⟩;rcases f with f|⟨g,cap,i,m,r,u⟩
 ·exact .inl f
 ·exact .inr ⟨g,cap,i,m,Nat.le_trans hb r,u⟩
theorem xF{lo base:Nat}{X:List Nat}{w:World}{e sz n:Nat}{v:Value}{xs:List Value}(h:w.ownsRow base e sz v n xs)(hb:lo<=base):CB lo X w e sz v n xs:=⟨CD h (Nat.zero_le _),λg d=>by
 rcases h.2 with ⟨rfl,_⟩|⟨f,cap,i,rfl,j,_⟩
 ·cases d
 ·obtain rfl:f=g:=Option.some.inj d
  exact .inl (Nat.le_trans hb j)⟩
def RE(lo:Nat)(X:List Nat)(A:AS)(C:Mem)(ρ:Nat ->Value)(w:World)(k:Nat):SE ->Prop
 | .st g T cs=>∃(b:Nat) (us:List Value),ρ k= .pointer (some ⟨b,0,none⟩)/\Bk w.heap b us T/\Ori lo X g b/\us.length=cs.length/\∀(i:Nat) c u,cs[i]?=some c ->us[i]?=some u ->u.oneCell'=true/\(Lv A c.refs ->RC C ρ c u)
 | .rw e sz l=>∃css:List (List Value),CB lo X w e sz (ρ k) l.length css.flatten/\(∀x∈l,x.length=sz)/\css.length=l.length/\∀(i:Nat) (us:List Value) x,css[i]?=some us ->l[i]?=some x ->us.length=sz/\∀(j:Nat) y u,x[j]?=some y ->us[j]?=some u ->u.oneCell'=true/\RV C y u
 | .fz l=>RV C (.sl l) (ρ k)
 | .ob g Q=>∃b o,ρ k= .map (some b)/\w.heap[b]?=some o/\Q o/\Ori lo X g b
 | .dead=>True
def Hb(C:Mem)(b:Nat):Prop:=∃o v,C b o v
structure Rp(w0:World)(X:List Nat)(C0:Mem)(A:AS)(s:St)(w:World)(C:Mem)(ρ:Nat ->Value):Prop where
 slot:∀t a,look A.e t=some a ->Lv A a.refs ->∃v,get s.e t=some v/\RA C ρ a v
 ent:∀k x,look A.m k=some x ->RE w0.heap.size X A C ρ w k x
 sep:∀j k x y g,j≠k ->look A.m j=some x ->x.mut=true ->look A.m k=some y ->y.mut=true ->blk (ρ j)=some g ->blk (ρ k)≠some g
 off:∀k x g b o v,look A.m k=some x ->x.mut=true ->blk (ρ k)=some g ->C b o v ->b≠g
 sub:Sub C w
 c0:∀b o v,C0 b o v ->C b o v
 cn:∀b o v,C b o v ->Hb C0 b \/w0.heap.size<=b \/b∈X
 kp:Kp X w0 w
def Rep(w0:World)(X:List Nat)(C0:Mem)(A:AS)(s:St)(w:World):Prop:=∃C ρ,Rp w0 X C0 A s w C ρ
theorem lA{α:Type}(l r:List (Nat×α))(t:Nat):look (l++r) t=match look l t with
  |some x=>some x
  |none=>look r t:=by
 induction l with
 |nil=>rfl
 |cons p l d=>
  obtain⟨k,v⟩:=p;rw[List.cons_append,cI,cI];cases Nat.beq k t
  ·exact d
  ·rfl
theorem look_app_some{α:Type}{l r:List (Nat×α)}{t:Nat}{x:α}(h:look (l++r) t=some x):look l t=some x \/(look l t=none/\look r t=some x):=by
 rw[lA]at h;cases d:look l t with
 |some y=>rw[d]at h;exact .inl h
 |none=>rw[d]at h;exact .inr ⟨rfl,h⟩
theorem Is{α:Type}{l r:List (Nat×α)}{t:Nat}{x:α}(h:look l t=some x):look (l++r) t=some x:=by rw[lA,h]
theorem rx{α:Type}{l r:List (Nat×α)}{t:Nat}(h:look l t=none):look (l++r) t=look r t:=by rw[lA,h]
def AS.upd(A:AS)(wr:List (Nat×AV))(wm:List (Nat×SE)):AS:=⟨wr++A.e,wm++A.m⟩
structure NoRef(k:Nat)(A:AS):Prop where
 e:∀t a,look A.e t=some a ->k ∉ a.refs
 m:∀j x,look A.m j=some x ->k ∉ x.refs
 un:∀x,look A.m k=some x ->x.mut=false
section
variable{w0:World}{X:List Nat}{C0:Mem}{A:AS}{s s':St}{w w':World}{C C':Mem}{ρ ρ':Nat ->Value}
theorem Lv.up{wr:List (Nat×AV)}{wm:List (Nat×SE)}{F:List Nat}(hl:∀k x,look wm k=some x ->x.alive=true ->k∈F \/∃y,look A.m k=some y/\y.alive=true){l:List Nat}(j:∀k∈F,k ∉ l)(h:Lv (A.upd wr wm) l):Lv A l:=λk g=>by
 obtain⟨x,m,i⟩:=h k g;rcases look_app_some m with d|⟨_,d⟩
 ·rcases hl k x d i with f|f
  ·exact absurd g (j k f)
  ·exact f
 ·exact⟨x,d,i⟩
theorem Rp.blk_lt(h:Rp w0 X C0 A s w C ρ){k g:Nat}{x:SE}(z:look A.m k=some x)(hm:x.mut=true)(d:blk (ρ k)=some g):g<w.heap.size/\(w0.heap.size<=g \/g∈X):=by
 have j:=h.ent k x z;cases x with
 |st m T F=>
  obtain⟨b,H,e,u,f,_⟩:=j;rw[e]at d;obtain rfl:b=g:=Option.some.inj d;exact⟨u.lt,f.or⟩
 |rw e sz l=>
  obtain⟨B,⟨i,r⟩,_⟩:=j;refine⟨?_,r g d⟩;rw[mD i]at d;rcases i.2 with ⟨e,_⟩|⟨m,cap,D,e,u,E,_⟩
  ·rw[e]at d;cases d
  ·rw[e]at d
   obtain rfl:m=g:=Option.some.inj d;exact(Array.getElem?_eq_some_iff.1 E).1
 |ob m Q=>
  obtain⟨b,o,e,i,_,f⟩:=j;rw[e]at d;obtain rfl:b=g:=Option.some.inj d;exact⟨(Array.getElem?_eq_some_iff.1 i).1,f.or⟩
 |fz l=>cases hm
 |dead=>cases hm
theorem Rp.step(h:Rp w0 X C0 A s w C ρ){wr:List (Nat×AV)}{wm:List (Nat×SE)}(F:List Nat)(N:∀k,k ∉ F ->ρ' k=ρ k)(hF:∀k∈F,NoRef k A)(a3:∀k∈F,∃x,look wm k=some x)
  (hl:∀k x,look wm k=some x ->x.alive=true ->k∈F \/∃y,look A.m k=some y/\y.alive=true)
  {Z:List Nat} (kp:Kp Z w w') (hZ:∀z∈Z,∃k x y,look wm k=some x/\look A.m k=some y/\y.mut=true/\blk (ρ k)=some z)
  (hC:∀b o v,C b o v ->C' b o v) (hS:Sub C' w') (hn:∀b o v,C' b o v ->Hb C b \/((w0.heap.size<=b \/b∈X)/\∀k x,look wm k=none ->look A.m k=some x ->x.mut=true ->blk (ρ k)≠some b))
  (he:∀k x,look wm k=some x ->RE w0.heap.size X (A.upd wr wm) C' ρ' w' k x)
  (hs:∀k x g,look wm k=some x ->x.mut=true ->blk (ρ' k)=some g ->(∀j y,j≠k ->look (A.upd wr wm).m j=some y ->y.mut=true ->blk (ρ' j)≠some g)/\∀b o v,C' b o v ->b≠g)
  (ht:∀t a,look wr t=some a ->Lv (A.upd wr wm) a.refs ->∃v,get s'.e t=some v/\RA C' ρ' a v) (a4:∀t,look wr t=none ->get s'.e t=get s.e t):Rp w0 X C0 (A.upd wr wm) s' w' C' ρ':=by
 have d:∀k,look wm k=none ->ρ' k=ρ k:=λk E=>N k λhf=>by
  obtain⟨x,hx⟩:=a3 k hf;rw[E]at hx;cases hx
 refine⟨λt a a5 hv=>?_,λk x E=>?_,λj k x y g H hj O E U B M=>?_,λk x g b o v E V B L=>?_,hS,λb o v L=>hC _ _ _ (h.c0 _ _ _ L),λb o v L=>?_,?_⟩
 ·rcases look_app_some a5 with f|⟨D,f⟩
  ·exact ht t a f hv
  ·have I:∀k∈F,k ∉ a.refs:=λk E=>(hF k E).e t a f
   obtain⟨v,a6,a7⟩:=h.slot t a f (hv.up hl I);exact⟨v,by rw[a4 t D];exact a6,(a7.mono hC).eqv λk E=>N k λhf=>I k hf E⟩
 ·rcases look_app_some E with f|⟨D,f⟩
  ·exact he k x f
  ·have hr:=h.ent k x f
   have W:∀g,x.mut=true ->blk (ρ k)=some g ->g ∉ Z:=λg V B hz=>by
    obtain⟨k',x',y,r,Y,h4,h5⟩:=hZ g hz;have H:k'≠k:=λe=>by rw[e,D]at r;cases r
    exact h.sep k' k y x g H Y h4 f V h5 B
   cases x with
   |st g' T cs=>
    obtain⟨b,us,e,hb,a0,a1,a2⟩:=hr;refine⟨b,us,by rw[d k D];exact e,hb.kp kp (W b rfl (by rw[e];rfl)),a0,a1,λi c u L hu=>⟨(a2 i c u L hu).1,λhv=>?_⟩⟩;have I:∀k∈F,k ∉ c.refs:=λj hj V=>(hF j hj).m k _ f (jW (List.mem_of_getElem? L) V);exact(((a2 i c u L hu).2 (hv.up hl I)).mono hC).eqv λj hj=>N j λhf=>I j hf hj
   |rw e sz l=>
    obtain⟨a8,⟨ho,a9⟩,r,Y,h4⟩:=hr;refine⟨a8,⟨?_,by rw[d k D];exact a9⟩,r,Y,λi us x hi hx=>⟨(h4 i us x hi hx).1,λj y u hy hu=>⟨((h4 i us x hi hx).2 j y u hy hu).1,((h4 i us x hi hx).2 j y u hy hu).2.mono hC⟩⟩⟩;rw[d k D];exact xA ho kp λg B=>W g rfl (by rw[mD ho];exact B)
   |fz l=>
    unfold RE at hr ⊢;rw[d k D];exact hr.mono hC
   |ob g' Q=>
    obtain⟨b,o,e,ho,hq,a0⟩:=hr;exact⟨b,o,by rw[d k D];exact e,by rw[kp.block b (Array.getElem?_eq_some_iff.1 ho).1 (W b rfl (by rw[e];rfl))];exact ho,hq,a0⟩
   |dead=>exact True.intro
 ·rcases look_app_some hj with f|⟨D,f⟩
  ·exact(hs j x g f O B).1 k y (Ne.symm H) E U M
  ·rcases look_app_some E with r|⟨Y,r⟩
   ·exact(hs k y g r U M).1 j x H hj O B
   ·rw[d j D]at B
    rw[d k Y]at M;exact h.sep j k x y g H f O r U B M
 ·rcases look_app_some E with f|⟨D,f⟩
  ·exact(hs k x g f V B).2 b o v L
  ·rw[d k D]at B
   rcases hn b o v L with ⟨o2,v2,r⟩|⟨_,r⟩
   ·exact h.off k x g b o2 v2 f V B r
   ·exact λe=>r k x D f V (by rw[e];exact B)
 ·rcases hn b o v L with ⟨o2,v2,r⟩|⟨r,_⟩
  ·exact h.cn b o2 v2 r
  ·exact .inr r
 ·refine h.kp.trans kp λz hz a'=>?_
  obtain⟨k',x',y,r,Y,h4,h5⟩:=hZ z hz;rcases(h.blk_lt Y h4 h5).2 with h6|h6
  ·omega
  ·exact h6
theorem Rp.slots(h:Rp w0 X C0 A s w C ρ){wr:List (Nat×AV)}(j:∀t a,look wr t=some a ->Lv A a.refs ->∃v,get s'.e t=some v/\RA C ρ a v)(d:∀t,look wr t=none ->get s'.e t=get s.e t):Rp w0 X C0 (A.upd wr []) s' w C ρ:=
 ⟨λt a f i=>by
  rcases look_app_some f with g|⟨m,g⟩
  ·exact j t a g i
  ·rw[d t m]
   exact h.slot t a g i,h.ent,h.sep,h.off,h.sub,h.c0,h.cn,h.kp⟩
theorem Rp.grow(h:Rp w0 X C0 A s w C ρ)(kp:Kp [] w w')(f:Sub C' w')(i:∀b o v,C b o v ->C' b o v)(j:∀b o v,C' b o v ->Hb C b \/w.heap.size<=b):Rp w0 X C0 A s w' C' ρ:=by
 have:=h.step (wr:=[]) (wm:=[]) (ρ':=ρ) (s':=s) [] (λ_ _=>rfl) (λk d=>by cases d) (λk d=>by cases d) (λk x d=>by cases d) kp (λz m=>by cases m) i f
  (λb o v r=>(j b o v r).imp id λu=>⟨.inl (Nat.le_trans h.kp.size u),λk x _ d B D=>by
   have:=(h.blk_lt d B D).1;omega⟩) (λk x d=>by cases d) (λk x g d=>by cases d) (λt a d=>by cases d) (λ_ _=>rfl)
 exact this
theorem Rp.dr(h:Rp w0 X C0 A s w C ρ)(m:Nat):Rp w0 X C0 A s {w with drawn:=m} C ρ:=⟨h.slot,h.ent,h.sep,h.off,h.sub,h.c0,h.cn,h.kp.dr m⟩
end
abbrev iV(n:Int):Value:=.int .i64 n
@[simp] abbrev XL (X:List Nat) (w:World):Prop:=∀b∈X,b<w.heap.size
theorem Kp.tq{X:List Nat}{w w' d:World}(k:Kp X w w')(f:Kp X w' d):Kp X w d:=k.trans f λ_ h _=>h
theorem Bk.kq{w w':World}{b T:Nat}{cs:List Value}(h:Bk w.heap b cs T)(k:Kp [] w w'):Bk w'.heap b cs T:=h.kp k Ud
theorem kQd{X:List Nat}(w:World){n:Nat}:Kp X w {w with drawn:=n}:=(Kp.refl X w).dr n
abbrev dr(w:World):World:={w with drawn:=w.drawn+1}
theorem _root_.JJ{α:Type}{a b:α}{l:List α}:a∈b::l↔a=b∨a∈l:=List.mem_cons 
theorem _root_.JK{α:Type}{a b:List α}:(a++b).length=a.length+b.length:=List.length_append 
theorem _root_.JQ{α:Type}{l:List α}{i:Nat}{a:α}(h:l[i]?=some a):a∈l:=List.mem_of_getElem? h
theorem _root_.JV{α:Type}{a:α}{l:List α}:(a::l).length=l.length+1:=List.length_cons 
theorem _root_.JW{α:Type}{a:α}{s t:List α}:a∈s++t↔a∈s∨a∈t:=List.mem_append 
theorem _root_.JZ{α:Type}{a:α}:¬ a∈([]:List α):=List.not_mem_nil 
theorem _root_.JY{α:Type}{l:List α}{i:Nat}(h:l.length≤i):l.drop i=[]:=List.drop_eq_nil_of_le h
theorem _root_.JX{α β:Type}{f:α→β}{l:List α}{i:Nat}:(l.map f)[i]?=l[i]?.map f:=List.getElem?_map 
theorem _root_.JU{α:Type}:([]:List α).length=0:=List.length_nil 
theorem _root_.JH{α:Type}{a:α}{l:List α}(h:a∈l):∃i:Nat,l[i]?=some a:=List.getElem?_of_mem h
theorem _root_.JG{α:Type}{l:List α}{i:Nat}(h:l.length≤i):l.take i=l:=List.take_of_length_le h
theorem _root_.JF{α:Type}{l:List α}:l.length=0↔l=[]:=List.length_eq_zero_iff 
theorem _root_.JD{α:Type}(l:List α):l++[]=l:=List.append_nil l
theorem _root_.JB{α:Type}{a b:α}(h:some a=some b):a=b:=Option.some.inj h
theorem _root_.KJ(n:Nat):n≤n:=Nat.le_refl n
theorem _root_.KQ{n m k:Nat}(h:n≤m)(h2:m≤k):n≤k:=Nat.le_trans h h2
theorem _root_.KV(n:Nat):0≤n:=Nat.zero_le n
theorem _root_.KW(n:Nat):0+n=n:=Nat.zero_add n
theorem _root_.KZ{n m k:Nat}(h:n<m)(h2:m≤k):n<k:=Nat.lt_of_lt_of_le h h2
theorem _root_.KY{c:Prop}{i:Decidable c}(n:¬ c){α:Sort _}{t e:α}:ite c t e=e:=if_neg n
theorem _root_.KX{c:Prop}{i:Decidable c}(n:c){α:Sort _}{t e:α}:ite c t e=t:=if_pos n
theorem _root_.KU{p:Prop} [Decidable p](h:p):decide p=true:=decide_eq_true h
theorem _root_.KH{p:Prop} [Decidable p](h:¬ p):decide p=false:=decide_eq_false h
theorem _root_.KG{α β:Sort _}{a b:α}(f:α→β)(h:a=b):f a=f b:=congrArg f h
theorem _root_.KF{α β:Type}{l:List α}(f:α→β):(l.map f).length=l.length:=List.length_map f
theorem _root_.KB{α β:Type}{f:α→β}{l m:List α}:(l++m).map f=l.map f++m.map f:=List.map_append 
theorem _root_.QJ{n m:Nat}(h:Nat.beq n m=true):n=m:=Nat.eq_of_beq_eq_true h
theorem _root_.QK{α:Type}{l:List α}{i:Nat}{a:α}:l.getD i a=l[i]?.getD a:=List.getD_eq_getElem?_getD 
theorem _root_.QQ{α:Type}{l:List α}{i:Nat}:l.take (i+1)=l.take i++l[i]?.toList:=List.take_add_one 
theorem _root_.QV{α:Type}{a:α}{l:List α}(m:List α)(h:a∈l):a∈m++l:=List.mem_append_right m h
theorem _root_.QW{α:Type}{a:α}{l:List α}(m:List α)(h:a∈l):a∈l++m:=List.mem_append_left m h
theorem _root_.QZ{α:Type}(a b:α):(some a=some b)=(a=b):=Option.some.injEq a b
theorem _root_.QY{p:Prop} [Decidable p](h:¬ ¬ p):p:=Decidable.of_not_not h
theorem _root_.QX{n m:Nat}(h:Nat.ble n m=true):n≤m:=Nat.le_of_ble_eq_true h
theorem _root_.QU{α:Type}{l m:List α}{i:Nat}(h:l.length≤i):(l++m)[i]?=m[i-l.length]?:=List.getElem?_append_right h
theorem _root_.QH{α:Type}{l m:List α}{i:Nat}(h:i<l.length):(l++m)[i]?=l[i]?:=List.getElem?_append_left h
theorem _root_.QF{α:Type}{l:List α}{i:Nat}(h:l.length≤i):l[i]?=none:=List.getElem?_eq_none h
theorem _root_.QD{α β:Type}{l:List α}{a:α}{f:α→β}(h:a∈l):f a∈l.map f:=List.mem_map_of_mem h
theorem _root_.VJ{α:Type}{i:Nat}{l:List α}:(l.take i).length=min i l.length:=List.length_take 
theorem _root_.VK{α:Type}{i:Nat}{l:List α}:(l.drop i).length=l.length-i:=List.length_drop 
theorem _root_.VQ:True:=True.intro 
end Go.Wx
