import Derived.WalkKit
import Derived.OrdersHeld
import Derived.RowKit
import Derived.Below
set_option linter.unusedVariables false
set_option linter.unusedSimpArgs false
namespace Go.Wx
def mkG (l:List Nat):Nat -> Nat -> List Bool
 | 0,_=>[]
 | n + 1,i=>(!l.elem i) :: mkG l n (i + 1)
def mB (n:Nat) (l:List Nat):Array Bool:=(mkG l n 0).toArray
def mR (n a:Nat):Array Bool:=mB n (List.range' a (n - a))
abbrev rg (a n:Nat):List Nat:=List.range' a n
structure St where
 e:List (Nat × Value)
 d:List Deferred
noncomputable def get (l:List (Nat × Value)):Nat -> Option Value :=
 List.rec (motive:=fun _=>Nat -> Option Value) (fun _=>none) (fun p _ ih t=>Bool.rec (motive:=fun _=>Option Value) (ih t) (some p.2) (Nat.beq p.1 t)) l
theorem kZ' (t:Nat):get [] t = none:=rfl
theorem gj' (k:Nat) (v:Value) (r:List (Nat × Value)) (t:Nat):get ((k,v) :: r) t = (match Nat.beq k t with
  | true=>some v
  | false=>get r t):=by
 show Bool.rec (motive:=fun _=>Option Value) (get r t) (some v) (Nat.beq k t) = _;cases Nat.beq k t <;> rfl
structure Fr (n:Nat) (a:Act) (s:St):Prop where
 size:a.tmps.size = n
 defers:a.defers = s.d
 has:∀ t v,get s.e t = some v -> a.tmps[t]? = some v
noncomputable def ev (e:List (Nat × Value)):Operand -> Option Value
 | .tmp t=>get e t
 | .const v=>some v
 | .global g=>some (.pointer (some ⟨g,0,none⟩))
 | .func f=>some (.func (.func f) #[] #[])
def wv (e:List (Nat × Value)) (x:Operand) (k:Value -> Prop):Prop :=
 match ev e x with
 | some v=>k v
 | none=>False
def wvs (e:List (Nat × Value)) (l:List Operand):(List Value -> Prop) -> Prop :=
 List.rec (motive:=fun _=>(List Value -> Prop) -> Prop) (fun k=>k []) (fun x _ ih k=>wv e x fun v=>ih fun vs=>k (v :: vs)) l
def wvo (e:List (Nat × Value)):Option Operand -> (Option Value -> Prop) -> Prop
 | none,k=>k none
 | some x,k=>wv e x fun v=>k (some v)
def wvp (e:List (Nat × Value)) (l:List (Nat × Operand)):(List (Nat × Value) -> Prop) -> Prop :=
 List.rec (motive:=fun _=>(List (Nat × Value) -> Prop) -> Prop) (fun k=>k []) (fun p _ ih k=>wv e p.2 fun v=>ih fun vs=>k ((p.1,v) :: vs)) l
def put (n:Nat) (s:St) (dst:Option Nat) (v:Value) (k:St -> Prop):Prop :=
 match dst with
 | none=>k s
 | some t=>match Nat.ble (t + 1) n with
  | true=>match s with
   | ⟨e,d⟩=>k ⟨(t,v) :: e,d⟩
  | false=>False
def Brk (A B:Prop) (c:Bool):Prop:=Bool.rec (motive:=fun _=>Prop) B A c
abbrev Br (c:Bool) (A B:Prop):Prop:=Brk A B c
@[irreducible] def EvRun (P:Program) (m:Sem Value) (w:World) (k:Value -> World -> Prop):Prop:=∃ v w',m.run P w = .ok v w' /\ k v w'
@[irreducible] def EvRunU (P:Program) (m:Sem Unit) (w:World) (k:World -> Prop):Prop:=∃ w',m.run P w = .ok () w' /\ k w'
@[irreducible] def EvInt (j:IntKind) (r:Int) (k:Value -> Prop):Prop:=∃ v,v = Value.int j (j.wrap r) /\ k v
theorem EvInt.elim {j:IntKind} {r:Int} {k:Value -> Prop} (h:EvInt j r k):k (.int j (j.wrap r)):=by
 unfold EvInt at h;obtain ⟨v,rfl,h⟩:=h;exact h
def di' (P : Program) (f : FuncId) : Prop := ∃ fn, P.funcs[f]? = some fn /\ fn.body.isNone = false /\ (fn.name == "runtime.NumGoroutine") = false
def lZ' (k:Value -> World -> Prop) (kp:List PanicEntry -> World -> Prop):Ending -> World -> Prop
 | .returned v,w=>k v w
 | .panicked ch,w=>kp ch w
 | .outgrown,_=>False
@[irreducible] def EvCall (P:Program) (f:FuncId) (args:Array Value) (w:World) (k:Value -> World -> Prop) (kp:List PanicEntry -> World -> Prop):Prop :=
 di' P f /\ Calls P f args w (lZ' k kp)
@[irreducible] def EvLd (w:World) (a:Addr) (k:Value -> Prop):Prop:=∃ v,w.cell? a = some v /\ k v
@[irreducible] def EvLdN (w:World) (a:Addr) (n:Nat) (k:Value -> Prop):Prop:=∃ cs:List Value,cs.length = n /\ (∀ j v,cs[j]? = some v -> w.cell? (a.add j) = some v) /\ k (.agg cs.toArray)
@[irreducible] def EvFill (o:Option (List Value)) (k:List Value -> Prop):Prop:=∃ cs,o = some cs /\ k cs
@[irreducible] def EvNew (w:World) (T:TypeId) (cs:List Value) (k:Nat -> World -> Prop):Prop:=∃ b w',(b = w.heap.size /\ w' = w.alloc (.cells cs.toArray T)) /\ k b w'
theorem EvNew.elim {w:World} {T:TypeId} {cs:List Value} {k:Nat -> World -> Prop} (h:EvNew w T cs k):k w.heap.size (w.alloc (.cells cs.toArray T)):=by
 unfold EvNew at h;obtain ⟨b,w',⟨rfl,rfl⟩,h⟩:=h;exact h
@[irreducible] def EvSt (w:World) (a:Addr) (v:Value) (k:World -> Prop):Prop:=(∃ u,w.cell? a = some u) /\ w.frozen? a = false /\ v.oneCell' = true /\ k (w.setCell a v)
@[irreducible] def EvIx (a:Option Addr) (len sz:Nat) (i:Int) (k:Addr -> Prop):Prop:=∃ ad,a = some ad /\ 0 <= i /\ i < len /\ k (ad.add (i.toNat * sz))
structure Tau where
 tab:List (Nat × List (Nat × Nat × Bool) × List Nat)
 ones:List (Nat × Nat)
 slcs:List (Nat × Nat × Nat × Nat)
def zc:Nat -> Value
 | 0=>.int .i64 0
 | 1=>.bool false
 | 2=>.slice none 0 0
 | 3=>.pointer none
 | 4=>.map none
 | 5=>.nilFunc
 | 6=>.int .u32 0
 | 7=>.int .u8 0
 | 8=>.nilIface
 | 9=>.string .empty
 | 10=>.int .u16 0
 | 11=>.int .u64 0
 | _=>.int .i32 0
def zeq:Nat -> Value -> Bool
 | 0,.int .i64 n=>n == 0
 | 1,.bool b=>!b
 | 2,.slice none 0 0=>true
 | 3,.pointer none=>true
 | 4,.map none=>true
 | 5,.nilFunc=>true
 | 6,.int .u32 n=>n == 0
 | 7,.int .u8 n=>n == 0
 | 8,.nilIface=>true
 | 9,.string s=>s.data.toList.isEmpty
 | 10,.int .u16 n=>n == 0
 | 11,.int .u64 n=>n == 0
 | 12,.int .i32 n=>n == 0
 | _,_=>false
def jM':Nat -> Option IntKind
 | 0=>some .i64
 | 6=>some .u32
 | 7=>some .u8
 | 10=>some .u16
 | 11=>some .u64
 | 12=>some .i32
 | _=>none
noncomputable def look {α:Type} (l:List (Nat × α)):Nat -> Option α :=
 List.rec (motive:=fun _=>Nat -> Option α) (fun _=>none) (fun p _ ih t=>Bool.rec (motive:=fun _=>Option α) (ih t) (some p.2) (Nat.beq p.1 t)) l
theorem qs' {α:Type} (t:Nat):look (α:=α) [] t = none:=rfl
theorem nP' {α:Type} (k:Nat) (v:α) (r:List (Nat × α)) (t:Nat):look ((k,v) :: r) t = (match Nat.beq k t with
  | true=>some v
  | false=>look r t):=by
 show Bool.rec (motive:=fun _=>Option α) (look r t) (some v) (Nat.beq k t) = _;cases Nat.beq k t <;> rfl
noncomputable def nth {α:Type} (l:List α):Nat -> Option α :=
 List.rec (motive:=fun _=>Nat -> Option α) (fun _=>none) (fun x _ ih i=>Bool.rec (motive:=fun _=>Option α) (ih (Nat.pred i)) (some x) (Nat.beq i 0)) l
noncomputable def Tau.zero (τ:Tau) (T:Nat):Option (List Value) :=
 match look τ.tab T with
 | some (_,z)=>some (z.map zc)
 | none=>match look τ.ones T with
  | some c=>some [zc c]
  | none=>none
def lay:List Value -> Nat -> List Value -> List Value
 | cs,_,[]=>cs
 | cs,o,v :: r=>lay (cs.set o v) (o + 1) r
def jN' (place:Nat -> Option (Nat × Nat)):List Value -> List (Nat × Value) -> Option (List Value)
 | cs,[]=>some cs
 | cs,(i,v) :: r=>match place i with
  | none=>none
  | some (o,sz)=>match Nat.beq v.cells.toList.length sz,Nat.ble (o + sz) cs.length with
   | true,true=>jN' place (lay cs o v.cells.toList) r
   | _,_=>none
noncomputable def placeS (fs:List (Nat × Nat × Bool)) (i:Nat):Option (Nat × Nat) :=
 match nth fs i with
 | some (o,sz,_)=>some (o,sz)
 | none=>none
def rep (z:List Value):Nat -> List Value
 | 0=>[]
 | n + 1=>z ++ rep z n
def nQ':IntKind -> IntKind -> Bool
 | .i64,.i64=>true
 | .u8,.u8=>true
 | .u16,.u16=>true
 | .u32,.u32=>true
 | .u64,.u64=>true
 | .i32,.i32=>true
 | .i16,.i16=>true
 | .i8,.i8=>true
 | _,_=>false
def vP' (P:Program) (τ:Tau) (op:BinOp) (T:TypeId) (x y:Operand) (a b:Value) (w:World) (k:Value -> World -> Prop):Prop :=
 match a,b with
 | .int j m,.int j' n=>match nQ' j j' with
  | false=>EvRun P (binOp op T (.int j m) (.int j' n)) w k
  | true=>match op with
   | .add=>EvInt j (m + n) fun v=>k v w
   | .sub=>EvInt j (m - n) fun v=>k v w
   | .mul=>EvInt j (m * n) fun v=>k v w
   | .eql=>k (.bool (decide (m = n))) w
   | .neq=>k (.bool (decide (m ≠ n))) w
   | .lss=>k (.bool (decide (m < n))) w
   | .leq=>k (.bool (decide (m <= n))) w
   | .gtr=>k (.bool (decide (n < m))) w
   | .geq=>k (.bool (decide (n <= m))) w
   | op=>EvRun P (binOp op T (.int j m) (.int j' n)) w k
 | .bool m,.bool n=>match look τ.ones T with
  | some 1=>match op with
   | .eql=>k (.bool (m == n)) w
   | .neq=>k (.bool (m != n)) w
   | _=>False
  | _=>False
 | a,b=>EvRun P (do eqGuard op T x y a b; binOp op T a b) w k
def unK (P:Program) (op:UnOp) (a:Value) (w:World) (k:Value -> World -> Prop):Prop :=
 match op,a with
 | .not,.bool b=>k (.bool (!b)) w
 | .neg,.int j m=>EvInt j (0 - m) fun v=>k v w
 | op,a=>EvRun P (Op.unary op a) w k
def uC' (P:Program) (f:Value) (args:List Value) (w:World) (k:Value -> World -> Prop) (kp:List PanicEntry -> World -> Prop):Prop :=
 match f with
 | .func (.func g) first captured=>EvCall P g (first ++ args.toArray ++ captured) w k kp
 | _=>False
def wp1 (P:Program) (τ:Tau) (n:Nat) (o:Oper) (s:St) (w:World) (k:St -> World -> Prop) (kp:List PanicEntry -> St -> World -> Prop):Prop :=
 let fin:Value -> World -> Prop:=fun v w'=>put n s o.dst v fun s'=>k s' w'
 match o.op with
 | .move x=>wv s.e x fun v=>fin v w
 | .assign x=>wv s.e x fun v=>fin v w
 | .pick c a b=>wv s.e c fun vc=>match vc with
  | .bool t=>Br t (wv s.e a fun v=>fin v w) (wv s.e b fun v=>fin v w)
  | _=>False
 | .alloc T=>match τ.zero T with
  | some z=>EvNew w T z fun b w'=>fin (.pointer (some ⟨b,0,none⟩)) w'
  | none=>EvRun P (Instr.alloc T true (.tuple #[])) w fin
 | .box T x=>wv s.e x fun v=>EvNew w T v.cells.toList fun b w'=>fin (.pointer (some ⟨b,0,none⟩)) w'
 | .build T ps=>wvp s.e ps.toList fun vs=>match look τ.tab T with
  | some (fs,z)=>match jN' (placeS fs) (z.map zc) vs with
   | some cs=>fin (.agg cs.toArray) w
   | none=>False
  | none=>EvRun P (Instr.build T vs.toArray) w fin
 | .buildSlice T len ps=>wvp s.e ps.toList fun vs=>match look τ.slcs T with
  | some (e,sz,_)=>match τ.zero e with
   | some z=>match Nat.ble 1 sz,Nat.ble (len * sz) 16777216 with
    | true,true=>EvFill (jN' (fun i=>some (i * sz,sz)) (rep z len) vs) fun cs=>EvNew w e cs fun b w'=>fin (.slice (some ⟨b,0,none⟩) len len) w'
    | _,_=>False
   | none=>EvRun P (Instr.buildSlice T len vs.toArray) w fin
  | none=>EvRun P (Instr.buildSlice T len vs.toArray) w fin
 | .load T x=>wv s.e x fun v=>match v with
  | .pointer (some a)=>match look τ.tab T with
   | some (_,z)=>EvLdN w a z.length fun u=>fin u w
   | none=>match look τ.ones T with
    | some _=>EvLd w a fun u=>fin u w
    | none=>EvRun P (Instr.loadAt T v) w fin
  | _=>False
 | .store T x y=>wv s.e x fun u=>wv s.e y fun v=>match u with
  | .pointer (some a)=>match look τ.ones T with
   | some _=>EvSt w a v fun w'=>fin undef w'
   | none=>match look τ.tab T,v with
    | some (_,z),.agg cs=>match Nat.beq cs.toList.length z.length with
     | true=>EvRunU P (storeCells a cs.toList) w fun w'=>fin undef w'
     | false=>False
    | _,_=>EvRunU P (Instr.storeAt T u v) w fun w'=>fin undef w'
  | _=>False
 | .binOp op T x y _=>wv s.e x fun a=>wv s.e y fun b=>vP' P τ op T x y a b w fin
 | .unOp op _ x=>wv s.e x fun a=>unK P op a w fin
 | .convert src dst x=>wv s.e x fun v=>match v,look τ.ones src,look τ.ones dst with
  | .int _ m,some _,some c=>match jM' c with
   | some j=>EvInt j m fun u=>fin u w
   | none=>EvRun P (convert src dst v) w fin
  | _,_,_=>EvRun P (convert src dst v) w fin
 | .makeInterface T x=>wv s.e x fun v=>EvRun P (Instr.makeInterface T v) w fin
 | .makeFunc fn first captured=>wvs s.e first.toList fun us=>wvs s.e captured.toList fun vs=>fin (.func fn us.toArray vs.toArray) w
 | .makeMap T none=>EvRun P (Instr.makeMap T none) w fin
 | .makeMap T (some r)=>wv s.e r fun v=>EvRun P (Instr.makeMap T (some v)) w fin
 | .makeSlice T l c=>wv s.e l fun u=>wv s.e c fun v=>EvRun P (Instr.makeSlice T u v) w fin
 | .slice T x lo hi mx=>wv s.e x fun v=>wvo s.e lo fun l=>wvo s.e hi fun h=>wvo s.e mx fun m=>EvRun P (Instr.sliceAt T v l h m) w fin
 | .fieldAddr T x f=>wv s.e x fun v=>match v,look τ.tab T with
  | .pointer (some a),some (fs,_)=>match nth fs f with
   | some (o,_,_)=>fin (.pointer (some (a.add o))) w
   | none=>False
  | _,_=>False
 | .field T x f=>wv s.e x fun v=>match v,look τ.tab T with
  | .agg cs,some (fs,_)=>match nth fs f with
   | some (o,sz,true)=>fin (.agg ((cs.toList.drop o).take sz).toArray) w
   | some (o,_,false)=>match nth cs.toList o with
    | some u=>fin u w
    | none=>False
   | none=>False
  | _,_=>False
 | .indexAddr T x i=>wv s.e x fun v=>wv s.e i fun j=>match v,j,look τ.slcs T with
  | .slice a len _,.int _ m,some (_,sz,_)=>EvIx a len sz m fun ad=>fin (.pointer (some ad)) w
  | _,_,_=>EvRun P (Instr.indexAt T v j) w fin
 | .index T x i=>wv s.e x fun v=>wv s.e i fun j=>EvRun P (Instr.index T v j) w fin
 | .lookup T x i ok=>wv s.e x fun v=>wv s.e i fun j=>EvRun P (Instr.lookup T v j ok) w fin
 | .mapUpdate T m i x=>wv s.e m fun u=>wv s.e i fun j=>wv s.e x fun v=>EvRunU P (Instr.mapUpdate T u j v) w fun w'=>fin undef w'
 | .insert T m i x=>wv s.e m fun u=>wv s.e i fun j=>wv s.e x fun v=>EvRunU P (Instr.mapUpdate T u j v) w fun w'=>fin undef w'
 | .range T x=>wv s.e x fun v=>EvRun P (Instr.range T v) w fin
 | .next x b=>wv s.e x fun v=>EvRun P (Instr.next v b o.type) w fin
 | .entry x=>wv s.e x fun v=>EvRun P (Instr.entry v) w fin
 | .typeAssert x T U ok=>wv s.e x fun v=>EvRun P (Instr.typeAssert v T U ok) w fin
 | .extract x i=>wv s.e x fun v=>match v with
  | .tuple vs=>match nth vs.toList i with
   | some u=>fin u w
   | none=>False
  | _=>False
 | .call c=>match c.callee with
  | .value f=>wv s.e f fun g=>wvs s.e c.args.toList fun vs=>uC' P g vs w fin fun ch w'=>kp ch s w'
  | .builtin b=>wvs s.e c.args.toList fun vs=>match b with
   | .len=>match vs,c.argTypes.toList with
    | [.slice _ m _],[T]=>match look τ.slcs T with
     | some _=>fin (.int .i64 m) w
     | none=>EvRun P (Builtin.len_ c.argTypes o.type vs.toArray) w fin
    | _,_=>EvRun P (Builtin.len_ c.argTypes o.type vs.toArray) w fin
   | .append=>EvRun P (Builtin.append_ c.argTypes o.type vs.toArray) w fin
   | .cap=>EvRun P (Builtin.cap_ c.argTypes o.type vs.toArray) w fin
   | .copy=>EvRun P (Builtin.copy_ c.argTypes o.type vs.toArray) w fin
   | .min=>EvRun P (Builtin.min_ c.argTypes o.type vs.toArray) w fin
   | .max=>EvRun P (Builtin.max_ c.argTypes o.type vs.toArray) w fin
   | .clear=>EvRun P (Builtin.clear_ c.argTypes o.type vs.toArray) w fin
   | .delete=>EvRun P (Builtin.delete_ c.argTypes o.type vs.toArray) w fin
   | _=>False
  | _=>False
 | .defer c=>match c.callee with
  | .value f=>wv s.e f fun g=>wvs s.e c.args.toList fun vs=>match g with
   | .func fn first captured=>match s with
    | ⟨e,d⟩=>put n ⟨e,{ target:=.fn fn captured,args:=first ++ vs.toArray } :: d⟩ o.dst undef fun s'=>k s' w
   | _=>False
  | _=>False
 | .nilCheck x=>wv s.e x fun v=>match v with
  | .pointer (some a)=>fin (.pointer (some a)) w
  | .func (.func f) us vs=>fin (.func (.func f) us vs) w
  | .iface t u=>fin (.iface t u) w
  | _=>False
 | .panic x=>wv s.e x fun v=>match v with
  | .iface t u=>kp [{ v:=.iface t u,recovered:=false }] s w
  | _=>False
 | _=>False
noncomputable def dstOf (all:List Oper) (j:Nat):Option Nat :=
 match nth all j with
 | some o=>o.dst
 | none=>none
def wpL (P:Program) (τ:Tau) (n:Nat) (all:List Oper) (k:St -> World -> Prop) (kp:List PanicEntry -> St -> World -> Prop) (l:List Oper):St -> World -> Prop :=
 List.rec (motive:=fun _=>St -> World -> Prop) (fun s w=>k s w) (fun o _ ih s w=>match o.guard with
  | none=>wp1 P τ n o s w ih kp
  | some (j,want)=>match dstOf all j with
   | none=>False
   | some d=>match get s.e d with
    | some (.bool c)=>match s with
     | ⟨e,ds⟩=>match want with
      | true=>Br c (wp1 P τ n o ⟨(d,.bool true) :: e,ds⟩ w ih kp) (put n ⟨(d,.bool false) :: e,ds⟩ o.dst undef fun s'=>ih s' w)
      | false=>Br c (put n ⟨(d,.bool true) :: e,ds⟩ o.dst undef fun s'=>ih s' w) (wp1 P τ n o ⟨(d,.bool false) :: e,ds⟩ w ih kp)
    | some (.tuple _)=>put n s o.dst undef fun s'=>ih s' w
    | _=>False) l
theorem qt' (P:Program) (τ:Tau) (n:Nat) (all:List Oper) (k:St -> World -> Prop) (kp:List PanicEntry -> St -> World -> Prop) (o:Oper) (rest:List Oper) (s:St) (w:World) :
  wpL P τ n all k kp (o :: rest) s w = (match o.guard with
  | none=>wp1 P τ n o s w (wpL P τ n all k kp rest) kp
  | some (j,want)=>match dstOf all j with
   | none=>False
   | some d=>match get s.e d with
    | some (.bool c)=>match s with
     | ⟨e,ds⟩=>match want with
      | true=>Br c (wp1 P τ n o ⟨(d,.bool true) :: e,ds⟩ w (wpL P τ n all k kp rest) kp) (put n ⟨(d,.bool false) :: e,ds⟩ o.dst undef fun s'=>wpL P τ n all k kp rest s' w)
      | false=>Br c (put n ⟨(d,.bool true) :: e,ds⟩ o.dst undef fun s'=>wpL P τ n all k kp rest s' w) (wp1 P τ n o ⟨(d,.bool false) :: e,ds⟩ w (wpL P τ n all k kp rest) kp)
    | some (.tuple _)=>put n s o.dst undef fun s'=>wpL P τ n all k kp rest s' w
    | _=>False):=rfl
def lift (n:Nat) (K:Exit -> St -> World -> Prop):Exit -> Act -> World -> Prop:=fun e a w=>∃ s,Fr n a s /\ K e s w
@[irreducible] def EvCode (P:Program) (n:Nat) (c:Code) (s:St) (w:World) (K:Exit -> St -> World -> Prop):Prop :=
 ∀ a,Fr n a s -> c.wp P (lift n K) a w
def la' (k:St -> World -> Prop) (K:Exit -> St -> World -> Prop):Exit -> St -> World -> Prop
 | .normal,s,w=>k s w
 | e,s,w=>K e s w
def ma' (id:Nat) (K:Exit -> St -> World -> Prop):Exit -> St -> World -> Prop
 | .exit j,s,w=>match Nat.beq j id with
  | true=>K .normal s w
  | false=>K (.exit j) s w
 | e,s,w=>K e s w
def wpx (P:Program) (τ:Tau) (n:Nat) (c:Code):St -> World -> (Exit -> St -> World -> Prop) -> Prop :=
 Code.rec (motive:=fun _=>St -> World -> (Exit -> St -> World -> Prop) -> Prop)
  (fun s w K=>K .normal s w)
  (fun id ops draw s w K=>Bool.rec (motive:=fun _=>Prop) (wpL P τ n ops.toList (K .normal) (fun ch=>K (.panic ch)) ops.toList s w) (EvCode P n (.region id ops true) s w K) draw)
  (fun _ _ iha ihb s w K=>iha s w (la' (fun s' w'=>ihb s' w' K) K))
  (fun c _ _ iha ihb s w K=>wv s.e c fun v=>match v with
   | .bool t=>Br t (iha s w K) (ihb s w K)
   | _=>False)
  (fun id _ ih s w K=>ih s w (ma' id K))
  (fun c _ s w K=>EvCode P n (.loop c) s w K)
  (fun f ps x y _ _ s w K=>EvCode P n (.rangeFunc f ps x y) s w K)
  (fun id s w K=>K (.exit id) s w)
  (fun x _ s w K=>EvCode P n (.scope x) s w K)
  (fun _ s w K=>K .normal s w)
  (fun l s w K=>EvCode P n (.goto l) s w K)
  (fun s w K=>K .ret s w)
  (fun m s w K=>EvCode P n (.refuse m) s w K) c
theorem Fr.eval {n:Nat} {a:Act} {s:St} (h:Fr n a s) {x:Operand} {v:Value} (hx:ev s.e x = some v):a.eval x = v:=by
 cases x with
 | tmp t =>
  have:=h.has t v hx;simp [Act.eval,this]
 | const u=>simpa [ev,Act.eval] using hx
 | global g=>simpa [ev,Act.eval] using hx
 | func f=>simpa [ev,Act.eval] using hx
theorem Fr.wv {n:Nat} {a:Act} {s:St} (h:Fr n a s) {x:Operand} {k:Value -> Prop} (hx:wv s.e x k):k (a.eval x):=by
 unfold Wx.wv at hx;split at hx
 ·rename_i v hv; rw [h.eval hv]; exact hx
 ·exact hx.elim
theorem Fr.wvs {n:Nat} {a:Act} {s:St} (h:Fr n a s):∀ (xs:List Operand) (k:List Value -> Prop),wvs s.e xs k -> k (xs.map a.eval)
 | [],k,hx=>hx
 | x :: r,k,hx=>by
  have h1:=h.wv hx;exact Fr.wvs h r (fun vs=>k (a.eval x :: vs)) h1
theorem Fr.wvp {n:Nat} {a:Act} {s:St} (h:Fr n a s):∀ (xs:List (Nat × Operand)) (k:List (Nat × Value) -> Prop),wvp s.e xs k -> k (xs.map fun p=>(p.1,a.eval p.2))
 | [],k,hx=>hx
 | (i,x) :: r,k,hx=>by
  have h1:=h.wv hx;exact Fr.wvp h r (fun vs=>k ((i,a.eval x) :: vs)) h1
theorem Fr.wvo {n:Nat} {a:Act} {s:St} (h:Fr n a s) {x:Option Operand} {k:Option Value -> Prop} (hx:wvo s.e x k):k (x.map a.eval):=by
 cases x with
 | none=>exact hx
 | some y=>exact h.wv hx
theorem Fr.cons {n:Nat} {a:Act} {s:St} (h:Fr n a s) {d:Nat} {v:Value} (hd:d < n):Fr n (a.put (some d) v) ⟨(d,v) :: s.e,s.d⟩:=by
 refine ⟨by simp [Act.put,h.size],by simp [Act.put,h.defers],fun t u hu=>?_⟩;simp only [gj'] at hu;have hsz:=h.size;cases hb:Nat.beq d t with
 | true =>
  rw [hb] at hu;have e:=Nat.eq_of_beq_eq_true hb;subst e;have:v = u:=by simpa using hu
  subst this;simp [Act.put,hsz,hd]
 | false =>
  rw [hb] at hu;have hne:d ≠ t:=fun e=>by subst e; simp at hb
  have:=h.has t u hu;simp [Act.put,Array.getElem?_setIfInBounds_ne hne,this]
theorem Fr.put {n:Nat} {a:Act} {s:St} (h:Fr n a s) {dst:Option Nat} {v:Value} {k:St -> Prop} (hp:put n s dst v k):∃ s',Fr n (a.put dst v) s' /\ k s':=by
 unfold Wx.put at hp;cases dst with
 | none=>exact ⟨s,h,hp⟩
 | some d =>
  simp only at hp;split at hp
  ·rename_i hb
   exact ⟨_,h.cons (Nat.le_of_ble_eq_true hb),hp⟩
  ·exact hp.elim
theorem Fr.again {n:Nat} {a:Act} {s:St} (h:Fr n a s) {d:Nat} {v:Value} (hd:get s.e d = some v):Fr n a ⟨(d,v) :: s.e,s.d⟩:=by
 refine ⟨h.size,h.defers,fun t u hu=>?_⟩;simp only [gj'] at hu;cases hb:Nat.beq d t with
 | true =>
  rw [hb] at hu;have e:=Nat.eq_of_beq_eq_true hb;subst e;have:v = u:=by simpa using hu
  subst this;exact h.has _ _ hd
 | false=>rw [hb] at hu; exact h.has t u hu
theorem dE' {α:Type}:∀ (l:List α) (i:Nat),nth l i = l[i]?
 | [],i=>by simp [nth]
 | x :: r,0=>rfl
 | x :: r,j + 1=>by
  have:nth (x :: r) (j + 1) = nth r j:=rfl;rw [this,dE' r j]; simp
theorem iL' {j k:IntKind} (h:nQ' j k = true):j = k:=by cases j <;> cases k <;> first | rfl | (simp [nQ'] at h)
def gz':TypeDesc -> Bool
 | .struct _=>false
 | .array _ _=>false
 | _=>true
def vK' (P:Program) (T:TypeId):Bool:=match P.underlying T with
 | some d=>!gz' d
 | none=>false
structure ax' (P:Program) (τ:Tau):Prop where
 tab:∀ T fs z,look τ.tab T = some (fs,z) -> ∃ gs:Array Field,P.underlying T = some (.struct gs) /\ gs.toList.map (fun f=>(f.offset,P.cellsOf f.type,vK' P f.type)) = fs /\ (∀ f ∈ gs.toList,(∃ d,P.underlying f.type = some d) /\ ∃ i,P.info? f.type = some i /\ i.size ≠ 0) /\
  ∃ i,P.info? T = some i /\ i.size = z.length /\ i.zero = some (.agg (z.map zc).toArray)
 ones:∀ T c,look τ.ones T = some c -> ∃ d i,P.underlying T = some d /\ gz' d = true /\ P.info? T = some i /\ i.size = 1 /\ i.zero = some (zc c) /\ (zc c).oneCell' = true /\ (c = 1 -> d = .bool) /\ ∀ j,jM' c = some j -> d = .int j
 slcs:∀ T e sz bs,look τ.slcs T = some (e,sz,bs) -> P.underlying T = some (.slice e) /\ ∃ i,P.info? e = some i /\ i.size = sz /\ i.bytes = bs
 mixed:P.follows .mixedOrders = true
theorem gk' {α:Type}:∀ {l:List (Nat × α)} {t:Nat} {v:α},look l t = some v -> (t,v) ∈ l
 | [],t,v,h=>by simp [qs'] at h
 | (k,u) :: r,t,v,h=>by
  simp only [nP'] at h;cases hb:Nat.beq k t with
  | true =>
   rw [hb] at h;have e:=Nat.eq_of_beq_eq_true hb;subst e;have:u = v:=by simpa using h
   subst this; simp
  | false=>rw [hb] at h; exact List.mem_cons_of_mem _ (gk' h)
theorem sh' {c:Nat} {v:Value} (h:zeq c v = true):v = zc c:=by
 unfold zeq at h;split at h
 all_goals first
  | rfl
  | (simp at h; subst h; rfl)
  | skip
 ·rename_i s
  have:s = ByteArray.empty:=by
   have h1:s.data.toList = []:=by simpa using h
   have h2:s.data = #[]:=Array.ext' (by simpa using h1);cases s;simp only at h2;subst h2
   rfl
  subst this
  rfl
 ·cases h
def uv':List Nat -> List Value -> Bool
 | [],[]=>true
 | c :: r,v :: t=>zeq c v && uv' r t
 | _,_=>false
theorem nR':∀ {z:List Nat} {vs:List Value},uv' z vs = true -> vs = z.map zc
 | [],[],_=>rfl
 | c :: r,v :: t,h=>by
  simp only [uv',Bool.and_eq_true] at h;simp [sh' h.1,nR' h.2]
 | [],_ :: _,h=>by simp [uv'] at h
 | _ :: _,[],h=>by simp [uv'] at h
def uD':TypeDesc -> IntKind -> Bool
 | .int j,k=>nQ' j k
 | _,_=>false
def mb' (P:Program) (x:Nat × List (Nat × Nat × Bool) × List Nat):Bool :=
 match P.underlying x.1,P.info? x.1 with
 | some (.struct gs),some i=>(gs.toList.map (fun f=>(f.offset,P.cellsOf f.type,vK' P f.type)) == x.2.1) &&
  gs.toList.all (fun f=>(P.underlying f.type).isSome && (match P.info? f.type with | some j=>j.size != 0 | none=>false)) &&
  (i.size == x.2.2.length) && (match i.zero with | some (.agg cs)=>uv' x.2.2 cs.toList | _=>false)
 | _,_=>false
def mc' (P:Program) (x:Nat × Nat):Bool :=
 match P.underlying x.1,P.info? x.1 with
 | some d,some i=>gz' d && (i.size == 1) && (match i.zero with | some v=>zeq x.2 v && v.oneCell' | none=>false) &&
  (match x.2 with | 1=>(match d with | .bool=>true | _=>false) | _=>true) && (match jM' x.2 with | some k=>uD' d k | none=>true)
 | _,_=>false
def md' (P:Program) (x:Nat × Nat × Nat × Nat):Bool :=
 match P.underlying x.1,P.info? x.2.1 with
 | some (.slice e),some i=>(e == x.2.1) && (i.size == x.2.2.1) && (i.bytes == x.2.2.2)
 | _,_=>false
def me' (P:Program) (τ:Tau):Bool:=τ.tab.all (mb' P) && τ.ones.all (mc' P) && τ.slcs.all (md' P) && P.follows .mixedOrders
theorem lb' {P:Program} {τ:Tau} (h:me' P τ = true):ax' P τ:=by
 simp only [me',Bool.and_eq_true,List.all_eq_true] at h;obtain ⟨⟨⟨h1,h2⟩,h3⟩,h4⟩:=h;refine ⟨fun T fs z hl=>?_,fun T c hl=>?_,fun T e sz bs hl=>?_,h4⟩
 ·have:=h1 _ (gk' hl)
  unfold mb' at this;split at this
  ·rename_i gs i hu hi
   simp only [Bool.and_eq_true,List.all_eq_true,beq_iff_eq] at this;obtain ⟨⟨⟨k1,k2⟩,k3⟩,k4⟩:=this;refine ⟨gs,hu,k1,fun f hf=>?_,i,hi,k3,?_⟩
   ·have:=k2 f hf
    obtain ⟨m1,m2⟩:=this;refine ⟨Option.isSome_iff_exists.1 m1,?_⟩;split at m2
    ·rename_i j hj; exact ⟨j,hj,by simpa using m2⟩
    ·cases m2
   ·split at k4
    ·rename_i cs hz
     have:=nR' k4;rw [hz]
     congr 2
     exact Array.ext' (by simpa using this)
    ·cases k4
  ·cases this
 ·have:=h2 _ (gk' hl)
  unfold mc' at this;split at this
  ·rename_i d i hu hi
   simp only [Bool.and_eq_true,beq_iff_eq] at this;obtain ⟨⟨⟨⟨k1,k2⟩,k3⟩,k4⟩,k5⟩:=this;split at k3
   ·rename_i v hv
    simp only [Bool.and_eq_true] at k3;have e:=sh' k3.1;subst e;refine ⟨d,i,hu,k1,hi,k2,hv,k3.2,fun hc=>?_,fun j hj=>?_⟩
    ·subst hc
     simp only at k4;cases d <;> first | rfl | cases k4
    ·simp only [hj] at k5
     unfold uD' at k5;split at k5
     ·rw [iL' k5]
     ·cases k5
   ·cases k3
  ·cases this
 ·have:=h3 _ (gk' hl)
  unfold md' at this;split at this
  ·rename_i e' i hu hi
   simp only [Bool.and_eq_true,beq_iff_eq] at this;obtain ⟨⟨k1,k2⟩,k3⟩:=this;subst k1;exact ⟨hu,i,hi,k2,k3⟩
  ·cases this
theorem du' {P:Program} {τ:Tau} (hτ:ax' P τ) {T:Nat} {z:List Value} (h:τ.zero T = some z):∃ i v,P.info? T = some i /\ i.zero = some v /\ v.cells = z.toArray /\ i.size = z.length:=by
 unfold Tau.zero at h;split at h
 ·rename_i fs zs hr
  obtain ⟨gs,hu,hfs,hinf,i,hi,hsz,hz⟩:=hτ.tab T fs zs hr;simp only [Option.some.injEq] at h;subst h;exact ⟨i,_,hi,hz,by simp [Value.cells],by simp [hsz]⟩
 ·split at h
  ·rename_i c hc
   obtain ⟨d,i,hu,hn,hi,hsz,hz,h1,_⟩:=hτ.ones T c hc;simp only [Option.some.injEq] at h;subst h;refine ⟨i,_,hi,hz,?_,by simp [hsz]⟩;cases hv:zc c <;> simp_all [Value.cells,Value.oneCell']
  ·cases h
section
variable {P:Program} {τ:Tau} {n:Nat} {o:Oper} {a:Act} {s:St} {w:World}
theorem ak' {next:Act -> World -> Prop} {Q:Exit -> Act -> World -> Prop} {m:Sem Value} {k:St -> World -> Prop}
  (he:execOp a.eval o = (do pure (.value (<- m)))) (hF:Fr n a s) (h:EvRun P m w fun v w'=>put n s o.dst v fun s'=>k s' w')
  (hk:∀ s' w' a',Fr n a' s' -> k s' w' -> next a' w'):o.wp P a w next Q:=by
 unfold EvRun at h;obtain ⟨v,w',hr,hp⟩:=h;obtain ⟨s',hF',hs⟩:=hF.put hp;unfold Oper.wp;rw [he];have:(do pure (Next.value (<- m)):Sem Next).run P w = .ok (.value v) w':=by simp [hr]
 rw [this];exact hk _ _ _ hF' hs
theorem fs' {next:Act -> World -> Prop} {Q:Exit -> Act -> World -> Prop} {m:Sem Unit} {k:St -> World -> Prop}
  (he:execOp a.eval o = (do m; pure .skip)) (hF:Fr n a s) (h:EvRunU P m w fun w'=>put n s o.dst undef fun s'=>k s' w')
  (hk:∀ s' w' a',Fr n a' s' -> k s' w' -> next a' w'):o.wp P a w next Q:=by
 unfold EvRunU at h;obtain ⟨w',hr,hp⟩:=h;obtain ⟨s',hF',hs⟩:=hF.put hp;unfold Oper.wp;rw [he];have:(do m; pure Next.skip:Sem Next).run P w = .ok .skip w':=by simp [hr]
 rw [this];exact hk _ _ _ hF' hs
theorem aw' {next:Act -> World -> Prop} {Q:Exit -> Act -> World -> Prop} {v:Value} {k:St -> World -> Prop}
  (he:(execOp a.eval o).run P w = .ok (.value v) w) (hF:Fr n a s) (hp:put n s o.dst v fun s'=>k s' w)
  (hk:∀ s' w' a',Fr n a' s' -> k s' w' -> next a' w'):o.wp P a w next Q:=by
 obtain ⟨s',hF',hs⟩:=hF.put hp;unfold Oper.wp;rw [he];exact hk _ _ _ hF' hs
theorem br_cases {c:Bool} {A B:Prop} (h:Br c A B):(c = true /\ A) \/ (c = false /\ B):=by
 cases c
 ·exact .inr ⟨rfl,h⟩
 ·exact .inl ⟨rfl,h⟩
theorem fK' {f:FuncId} {args:Array Value} (h:di' P f):(callFunc f args).run P w = .ok (.enter f args) w:=by
 obtain ⟨fn, hf, hb, hn⟩ := h;have hn' : ¬ fn.name = "runtime.NumGoroutine" := by simpa using hn
 have hb':¬ fn.body = none:=by intro e; rw [e] at hb; cases hb
 simp [callFunc,hf,hb',hn']
theorem bV' (op:BinOp) (T:TypeId) (x y:Operand) (j k:IntKind) (m l:Int):(eqGuard op T x y (.int j m) (.int k l)).run P w = .ok () w:=by
 cases op <;> simp [eqGuard]
theorem cQ' (op:BinOp) (T:TypeId) (x y:Operand) (m l:Bool):(eqGuard op T x y (.bool m) (.bool l)).run P w = .ok () w:=by
 cases op <;> simp [eqGuard]
theorem qu' (hτ:ax' P τ) {op:BinOp} {T:TypeId} {x y:Operand} {u v:Value} {k:Value -> World -> Prop} (h:vP' P τ op T x y u v w k) :
  EvRun P (do eqGuard op T x y u v; binOp op T u v) w k:=by
 unfold vP' at h;split at h
 ·rename_i j m j' l
  split at h
  ·unfold EvRun at h ⊢
   obtain ⟨v,w',hr,hk⟩:=h;exact ⟨v,w',by simp [bV',hr],hk⟩
  ·rename_i hs
   have:=iL' hs;subst this;split at h
   all_goals (try replace h:=EvInt.elim h)
   all_goals (try unfold EvRun at h)
   all_goals unfold EvRun
   case h_10 =>
    obtain ⟨v,w',hr,hk⟩:=h;exact ⟨v,w',by simp [bV',hr],hk⟩
   all_goals (refine ⟨_,w,?_,h⟩; simp [bV',binOp,Op.intArith,Op.intCmp]; try rfl)
   all_goals (by_cases e:m = l <;> simp [e])
 ·rename_i m l
  split at h
  ·rename_i hs
   obtain ⟨d,_,hb,_,_,_,_,_,hd,_⟩:=hτ.ones T 1 hs;rw [hd rfl] at hb;unfold EvRun;split at h
   ·exact ⟨_,w,by simp [cQ',run_eql_bool w T m l hb],h⟩
   ·exact ⟨_,w,by simp only [Sem.run_bind,cQ',Result.andThen_ok,run_neq_bool w T m l hb]; rfl,h⟩
   ·exact h.elim
  ·exact h.elim
 ·exact h
theorem sN' {op:UnOp} {u:Value} {k:Value -> World -> Prop} (h:unK P op u w k):EvRun P (Op.unary op u) w k:=by
 unfold unK at h;split at h
 ·unfold EvRun; exact ⟨_,w,by simp [Op.unary],h⟩
 ·replace h:=EvInt.elim h; unfold EvRun; exact ⟨_,w,by simp [Op.unary,Op.intArith],h⟩
 ·exact h
theorem jO':∀ (vs:List Value) (cs:List Value) (o j:Nat),(vs.zipIdx j).foldl (fun (cs:Array Value) (p:Value × Nat)=>cs.setIfInBounds (o + p.2) p.1) cs.toArray = (lay cs (o + j) vs).toArray
 | [],cs,o,j=>by simp [lay]
 | v :: r,cs,o,j=>by
  simp only [List.zipIdx_cons,List.foldl_cons,lay];have:=jO' r (cs.set (o + j) v) o (j + 1);rw [show o + j + 1 = o + (j + 1) by omega];rw [<- this];simp
theorem ed' {place:Nat -> Option (Nat × Nat)}:∀ (vs:List (Nat × Value)) (cs out:List Value),jN' place cs vs = some out ->
  Instr.fill place cs.toArray vs = some out.toArray
 | [],cs,out,h=>by
  simp only [jN',Option.some.injEq] at h;subst h;simp [Instr.fill]
 | (i,v) :: r,cs,out,h=>by
  simp only [jN'] at h;simp only [Instr.fill];cases hf:place i with
  | none=>rw [hf] at h; simp at h
  | some q =>
   obtain ⟨off,sz⟩:=q;rw [hf] at h;simp only at h ⊢;split at h
   ·rename_i h1 h2
    have e1:=Nat.eq_of_beq_eq_true h1;have e2:=Nat.le_of_ble_eq_true h2;have hc:v.cells.size = sz:=by simpa using e1
    rw [if_neg (by simp [hc]; omega)];have hz:=jO' v.cells.toList cs off 0;have:=ed' r (lay cs off v.cells.toList) out h;rw [<- this]
    congr 1
    rw [Nat.add_zero] at hz;rw [<- hz,<- Array.foldl_toList];simp [Array.toList_zipIdx]
   ·cases h
theorem ie' (z:List Value):∀ n,(rep z n).length = n * z.length
 | 0=>by simp [rep]
 | n + 1=>by simp only [rep,List.length_append,ie' z n,Nat.succ_mul]; omega
theorem nS' (z:List Value) (hz:0 < z.length):∀ n i,i < n * z.length -> (rep z n)[i]? = z[i % z.length]?
 | 0,i,h=>by omega
 | n + 1,i,h=>by
  simp only [rep];rcases Nat.lt_or_ge i z.length with hi | hi
  ·rw [List.getElem?_append_left hi,Nat.mod_eq_of_lt hi]
  ·rw [List.getElem?_append_right hi,nS' z hz n (i - z.length) (by rw [Nat.succ_mul] at h; omega)]
   rw [Nat.mod_eq_sub_mod hi]
theorem gA' (z:List Value) (n:Nat) (hz:0 < z.length):((Array.range (n * z.length)).map (z.toArray[· % z.toArray.size]!)) = (rep z n).toArray:=by
 apply Array.ext';apply List.ext_getElem?;intro i;simp only [Array.toList_map,Array.toList_range,List.getElem?_map];rcases Nat.lt_or_ge i (n * z.length) with hi | hi
 ·rw [nS' z hz n i hi]
  have hm:i % z.length < z.length:=Nat.mod_lt _ hz;simp [hi,hm]
 ·rw [List.getElem?_eq_none (by simpa using hi),List.getElem?_eq_none (by rw [ie']; exact hi)]
  rfl
theorem eJ' (a:Act) (xs:Array Operand):xs.map a.eval = (xs.toList.map a.eval).toArray:=Array.ext' (by simp)
theorem nT' (hτ:ax' P τ) {k:St -> World -> Prop} {kp:List PanicEntry -> St -> World -> Prop} {next:Act -> World -> Prop} {Q:Exit -> Act -> World -> Prop}
  (hF:Fr n a s) (h:wp1 P τ n o s w k kp) (hk:∀ s' w' a',Fr n a' s' -> k s' w' -> next a' w')
  (hp:∀ ch s' w' a',Fr n a' s' -> kp ch s' w' -> Q (.panic ch) a' w'):o.wp P a w next Q:=by
 cases hop:o.op <;> simp only [wp1,hop] at h
 case move x=>exact aw' (by simp [execOp,hop]) hF (hF.wv h) hk
 case assign x=>exact aw' (by simp [execOp,hop]) hF (hF.wv h) hk
 case pick c x y =>
  have h1:=hF.wv h;split at h1
  ·rename_i t ht
   rcases br_cases h1 with ⟨e,h2⟩ | ⟨e,h2⟩
   ·subst e; exact aw' (by simp [execOp,hop,ht,asBool]) hF (hF.wv h2) hk
   ·subst e; exact aw' (by simp [execOp,hop,ht,asBool]) hF (hF.wv h2) hk
  ·exact h1.elim
 case alloc T =>
  split at h
  ·rename_i z hz
   obtain ⟨i,v,hi,hv,hc,_⟩:=du' hτ hz
   replace h:=EvNew.elim h
   refine ak' (m:=Instr.alloc T true (.tuple #[])) (by simp [execOp,hop]) hF ?_ hk;unfold EvRun;refine ⟨_,_,?_,h⟩;simp [Instr.alloc,zeroValue,typeInfo,hi,hv,newVar,newRow,hc]
  ·exact ak' (by simp [execOp,hop]) hF h hk
 case box T x =>
  have h1:=hF.wv h
  replace h1:=EvNew.elim h1
  refine ak' (m:=Instr.box T (a.eval x)) (by simp [execOp,hop]) hF ?_ hk;unfold EvRun;refine ⟨_,_,?_,h1⟩;simp [Instr.box,newVar,newRow]
 case build T ps =>
  have h1:=hF.wvp _ _ h;have hm:(ps.map fun p=>(p.1,a.eval p.2)) = (ps.toList.map fun p=>(p.1,a.eval p.2)).toArray:=Array.ext' (by simp);split at h1
  ·rename_i fs z hr
   split at h1
   ·rename_i cs hc
    obtain ⟨gs,hu,hfs,hinf,i,hi,_,hz⟩:=hτ.tab T fs z hr;refine aw' (v:=.agg cs.toArray) ?_ hF h1 hk;have hplaces:∀ (l:List Field),(∀ f ∈ l,(∃ d,P.underlying f.type = some d) /\ ∃ i,P.info? f.type = some i /\ i.size ≠ 0) -> (l.mapM (m:=Sem) fun f=>do pure (f.offset,<- sizeOf f.type)).run P w = .ok (l.map fun f=>(f.offset,P.cellsOf f.type)) w:=by
     intro l
     induction l with
     | nil=>intro _; simp
     | cons f l ih =>
      intro hl;obtain ⟨_,j,hj,_⟩:=hl f (by simp);have:=ih fun g hg=>hl g (by simp [hg]);have hsz:(sizeOf f.type).run P w = .ok (P.cellsOf f.type) w:=by simp [sizeOf,typeInfo,hj,Program.cellsOf]
      simp only [List.mapM_cons,Sem.run_bind,hsz,Result.andThen_ok,Sem.run_pure,this,List.map_cons]
    have hpl:(gs.mapM (m:=Sem) fun f=>do pure (f.offset,<- sizeOf f.type)).run P w = .ok (gs.toList.map fun f=>(f.offset,P.cellsOf f.type)).toArray w:=by
     rw [Array.mapM_eq_mapM_toList];have:=hplaces gs.toList hinf;simp only [bind_pure_comp] at this ⊢;simp [this]
    have hpe:placeS fs = fun i=>(gs.toList.map fun f=>(f.offset,P.cellsOf f.type)).toArray[i]?:=by
     funext i
     unfold placeS;rw [dE',<- hfs];simp only [List.getElem?_map,List.getElem?_toArray];cases gs.toList[i]? <;> rfl
    rw [hpe] at hc;have hfill:=ed' _ _ _ hc;simp only [execOp,hop,Instr.build,Sem.run_bind,zeroValue,typeInfo,run_program,Result.andThen_ok,hi,Sem.run_pure,hz,run_underlying hu,hpl];simp only [hm];simp only [Value.cells];rw [hfill];simp
   ·exact h1.elim
  ·rw [<- hm] at h1
   exact ak' (by simp [execOp,hop]) hF h1 hk
 case buildSlice T len ps =>
  have h1:=hF.wvp _ _ h;have hm:(ps.map fun p=>(p.1,a.eval p.2)) = (ps.toList.map fun p=>(p.1,a.eval p.2)).toArray:=Array.ext' (by simp);split at h1
  ·rename_i e sz bs hs
   obtain ⟨hu,i,hi,hsz,_⟩:=hτ.slcs T e sz bs hs;split at h1
   ·rename_i z hz
    obtain ⟨i',v,hi',hv,hcz,hsz'⟩:=du' hτ hz;have:i' = i:=by rw [hi'] at hi; simpa using hi
    subst this;split at h1
    ·rename_i hb1 hb2
     unfold EvFill at h1;obtain ⟨cs,hc,h1⟩:=h1;have e1:=Nat.le_of_ble_eq_true hb1;have e2:=Nat.le_of_ble_eq_true hb2
     replace h1:=EvNew.elim h1
     refine ak' (m:=Instr.buildSlice T len (ps.map fun p=>(p.1,a.eval p.2))) (by simp [execOp,hop]) hF ?_ hk;unfold EvRun;refine ⟨_,_,?_,h1⟩;have hf:=ed' _ _ _ hc;have hzl:z.length = sz:=by rw [<- hsz',hsz]
     have hr:=gA' z len (by omega);rw [hzl] at hr;have hsize:(sizeOf e).run P w = .ok sz w:=by simp [sizeOf,typeInfo,hi',hsz]
     have hzero:(zeroValue e).run P w = .ok v w:=by simp [zeroValue,typeInfo,hi',hv]
     have hlz:z.toArray.size = sz:=by simp [hzl]
     simp only [Instr.buildSlice,Sem.run_bind,run_underlying hu,Result.andThen_ok,hsize];rw [if_neg (by omega)]
     by_cases h0:len * sz = 0
     ·have hl0:len = 0:=by
       rcases Nat.mul_eq_zero.1 h0 with h | h
       ·exact h
       ·omega
      subst hl0;simp only [Nat.zero_mul,if_true,rep] at hf ⊢;simp only [Sem.run_bind,Sem.run_pure,Result.andThen_ok];have:(Array.range 0).map (fun x=>(#[]:Array Value)[x % (#[]:Array Value).size]!) = #[]:=by simp
      rw [this,hm];rw [hf];simp [newRow]
     ·rw [Sem.run_ite,if_neg h0]
      simp only [Sem.run_bind,hzero,Result.andThen_ok,Sem.run_pure,hcz,hr,hm];rw [hf];simp [newRow]
    ·exact h1.elim
   ·rw [<- hm] at h1
    exact ak' (by simp [execOp,hop]) hF h1 hk
  ·rw [<- hm] at h1
   exact ak' (by simp [execOp,hop]) hF h1 hk
 case load T x =>
  have h1:=hF.wv h;split at h1
  ·rename_i ad hx
   refine ak' (m:=Instr.loadAt T (a.eval x)) (by simp [execOp,hop]) hF ?_ hk;rw [hx];split at h1
   ·rename_i fs z hr
    obtain ⟨gs,hu,hfs,hinf,i,hi,hsz,hz⟩:=hτ.tab T fs z hr;unfold EvLdN at h1;obtain ⟨cs,hl,hc,hput⟩:=h1;unfold EvRun;refine ⟨_,w,?_,hput⟩;have:=run_loadCells_list (P:=P) (w:=w) ad cs hc;rw [hl] at this;simp [Instr.loadAt,Instr.sureAddr,loadVar,isAgg,run_underlying hu,sizeOf,typeInfo,hi,hsz,this]
   ·split at h1
    ·rename_i c hc
     obtain ⟨d,i,hu,hn,hi,hsz,hz,h1',_⟩:=hτ.ones T c hc;unfold EvLd at h1;obtain ⟨v,hv,hput⟩:=h1;unfold EvRun;refine ⟨v,w,?_,hput⟩;cases d <;> simp_all [Instr.loadAt,Instr.sureAddr,loadVar,isAgg,run_underlying hu,gz']
    ·rw [hx] at h1; exact h1
  ·exact h1.elim
 case store T x y =>
  have h1:=hF.wv (hF.wv h);split at h1
  ·rename_i ad hx
   refine fs' (m:=Instr.storeAt T (a.eval x) (a.eval y)) (by simp [execOp,hop]) hF ?_ hk;rw [hx];split at h1
   ·rename_i c hc
    obtain ⟨d,i,hu,hn,hi,hsz,hz,h1',_⟩:=hτ.ones T c hc;unfold EvSt at h1;obtain ⟨⟨u,hu'⟩,hfz,h1c,hput⟩:=h1;unfold EvRunU;refine ⟨_,?_,hput⟩;have hcells:(a.eval y).cells = #[a.eval y]:=by
     cases hy:a.eval y <;> simp_all [Value.cells,Value.oneCell']
    have hst:=run_store P w ad (a.eval y) .plain h1c;simp only [hu',hfz,Bool.false_eq_true,if_false] at hst;have had:ad.add 0 = ad:=by simp [Addr.add]
    simp [Instr.storeAt,Instr.sureAddr,storeVar,hcells,sizeOf,typeInfo,hi,hsz,storeCells,had,hst]
   ·split at h1
    ·rename_i fs z cs hr hv
     obtain ⟨gs,hu,hfs,hinf,i,hi,hsz,hz⟩:=hτ.tab T fs z hr;split at h1
     ·rename_i hb
      have e1:=Nat.eq_of_beq_eq_true hb;unfold EvRunU at h1 ⊢;obtain ⟨w',hst,hput⟩:=h1;refine ⟨w',?_,hput⟩;have e2:cs.size = z.length:=by simpa using e1
      simp [Instr.storeAt,Instr.sureAddr,storeVar,hv,Value.cells,sizeOf,typeInfo,hi,hsz,e2,hst]
     ·exact h1.elim
    ·rw [hx] at h1; exact h1
  ·exact h1.elim
 case binOp op T x y U=>exact ak' (m:=do eqGuard op T x y (a.eval x) (a.eval y); binOp op T (a.eval x) (a.eval y)) (by simp [execOp,hop]) hF (qu' hτ (hF.wv (hF.wv h))) hk
 case unOp op T x=>exact ak' (m:=Op.unary op (a.eval x)) (by simp [execOp,hop]) hF (sN' (hF.wv h)) hk
 case convert T U x =>
  have h1:=hF.wv h;refine ak' (m:=convert T U (a.eval x)) (by simp [execOp,hop]) hF ?_ hk;split at h1
  ·rename_i j0 m c0 c hx hT hU
   split at h1
   ·rename_i j hj
    obtain ⟨d,i,hu,_⟩:=hτ.ones T c0 hT;obtain ⟨d',i',hu',_,_,_,_,_,_,hd'⟩:=hτ.ones U c hU;have:=hd' j hj;subst this
    replace h1:=EvInt.elim h1
    unfold EvRun;refine ⟨_,w,?_,h1⟩;rw [hx];simp [convert,run_underlying hu,run_underlying hu',Conv.intToInt]
   ·exact h1
  ·exact h1
 case makeInterface T x=>exact ak' (by simp [execOp,hop]) hF (hF.wv h) hk
 case makeFunc fn first captured =>
  have h1:=hF.wvs _ _ (hF.wvs _ _ h);refine aw' (v:=.func fn (first.map a.eval) (captured.map a.eval)) (by simp [execOp,hop,Instr.makeFunc]) hF ?_ hk;rw [eJ',eJ']; exact h1
 case makeMap T r =>
  cases r with
  | none=>exact ak' (by simp [execOp,hop]) hF h hk
  | some r=>exact ak' (by simp [execOp,hop]) hF (hF.wv h) hk
 case makeSlice T l c=>exact ak' (by simp [execOp,hop]) hF (hF.wv (hF.wv h)) hk
 case slice T x lo hi mx=>exact ak' (by simp [execOp,hop]) hF (hF.wvo (hF.wvo (hF.wvo (hF.wv h)))) hk
 case fieldAddr T x f =>
  have h1:=hF.wv h;split at h1
  ·rename_i ad fs z hx hr
   split at h1
   ·rename_i off sz ag hf
    obtain ⟨gs,hu,hfs,hinf,_⟩:=hτ.tab T fs z hr;rw [dE',<- hfs] at hf;simp only [List.getElem?_map] at hf;cases hg:gs.toList[f]? with
    | none=>simp [hg] at hf
    | some g =>
     simp [hg] at hf;obtain ⟨ho,_,_⟩:=hf;obtain ⟨_,j,hj,hsz⟩:=hinf g (List.mem_of_getElem? hg);have hg':gs[f]? = some g:=by simpa using hg
     refine aw' (v:=.pointer (some (ad.add off))) ?_ hF h1 hk;simp [execOp,hop,Instr.fieldAt,run_underlying hu,hg',hx,Instr.sureAddr,fieldPlace,sizeOf,typeInfo,hj,hsz,ho]
   ·exact h1.elim
  ·exact h1.elim
 case field T x f =>
  have h1:=hF.wv h;split at h1
  ·rename_i cs fs z hx hr
   obtain ⟨gs,hu,hfs,hinf,_⟩:=hτ.tab T fs z hr;split at h1
   ·rename_i off sz hf
    rw [dE',<- hfs] at hf;simp only [List.getElem?_map] at hf;cases hg:gs.toList[f]? with
    | none=>simp [hg] at hf
    | some g =>
     simp [hg] at hf;obtain ⟨ho,hs,hag⟩:=hf;obtain ⟨⟨d,hd⟩,j,hj,hsz⟩:=hinf g (List.mem_of_getElem? hg);have hg':gs[f]? = some g:=by simpa using hg
     refine aw' (v:=_) ?_ hF h1 hk;have hsj:j.size = sz:=by rw [<- hs]; simp [Program.cellsOf,hj]
     unfold vK' at hag;rw [hd] at hag;have hex:(cs.extract off (off + sz)) = ((cs.toList.drop off).take sz).toArray:=by
      apply Array.ext';simp [List.extract_eq_take_drop]
     cases d <;> simp [gz'] at hag <;>
      simp [execOp,hop,Instr.field,run_underlying hu,hg',hx,asAgg,part,isAgg,run_underlying hd,sizeOf,typeInfo,hj,hsj,ho,hex]
   ·rename_i off sz hf
    rw [dE',<- hfs] at hf;simp only [List.getElem?_map] at hf;cases hg:gs.toList[f]? with
    | none=>simp [hg] at hf
    | some g =>
     simp [hg] at hf;obtain ⟨ho,hs,hag⟩:=hf;obtain ⟨⟨d,hd⟩,j,hj,hsz⟩:=hinf g (List.mem_of_getElem? hg);have hg':gs[f]? = some g:=by simpa using hg
     split at h1
     ·rename_i u hu'
      rw [dE'] at hu';have hu'':cs[off]? = some u:=by simpa using hu'
      refine aw' (v:=u) ?_ hF h1 hk;unfold vK' at hag;rw [hd] at hag;cases d <;> simp [gz'] at hag <;>
       simp [execOp,hop,Instr.field,run_underlying hu,hg',hx,asAgg,part,isAgg,run_underlying hd,ho,hu'']
     ·exact h1.elim
   ·exact h1.elim
  ·exact h1.elim
 case indexAddr T x i =>
  have h1:=hF.wv (hF.wv h);refine ak' (m:=Instr.indexAt T (a.eval x) (a.eval i)) (by simp [execOp,hop]) hF ?_ hk;split at h1
  ·rename_i ad len cap j m e sz bs hx hi hs
   obtain ⟨hu,inf,hinf,hsz,_⟩:=hτ.slcs T e sz bs hs;unfold EvIx at h1;obtain ⟨ad',rfl,h0,hlt,hput⟩:=h1;unfold EvRun;refine ⟨_,w,?_,hput⟩;rw [hx,hi];simp [Instr.indexAt,asIntOf,run_underlying hu,h0,hlt,sizeOf,typeInfo,hinf,hsz]
  ·exact h1
 case index T x i=>exact ak' (by simp [execOp,hop]) hF (hF.wv (hF.wv h)) hk
 case lookup T x i ok=>exact ak' (by simp [execOp,hop]) hF (hF.wv (hF.wv h)) hk
 case mapUpdate T m i x=>exact fs' (by simp [execOp,hop]) hF (hF.wv (hF.wv (hF.wv h))) hk
 case insert T m i x=>exact fs' (by simp [execOp,hop]) hF (hF.wv (hF.wv (hF.wv h))) hk
 case range T x=>exact ak' (by simp [execOp,hop]) hF (hF.wv h) hk
 case next x b=>exact ak' (by simp [execOp,hop]) hF (hF.wv h) hk
 case entry x=>exact ak' (by simp [execOp,hop]) hF (hF.wv h) hk
 case typeAssert x T U ok=>exact ak' (by simp [execOp,hop]) hF (hF.wv h) hk
 case extract x i =>
  have h1:=hF.wv h;split at h1
  ·rename_i vs hx
   split at h1
   ·rename_i u hu
    rw [dE'] at hu;have hu':vs[i]? = some u:=by simpa using hu
    exact aw' (v:=u) (by simp [execOp,hop,Instr.extract,hx,hu']) hF h1 hk
   ·exact h1.elim
  ·exact h1.elim
 case call c =>
  cases hc:c.callee with
  | value f =>
   simp only [hc] at h;have h1:=hF.wvs _ _ (hF.wv h);unfold uC' at h1;split at h1
   ·rename_i g first captured hg
    unfold EvCall at h1;obtain ⟨hok,hcall⟩:=h1;have hr:(execOp a.eval o).run P w = .ok (.enter g (first ++ (c.args.toList.map a.eval).toArray ++ captured)) w:=by
     simp only [execOp,hop,resolve,hc,hg,Deferred.ofValue,Sem.run_bind,Sem.run_pure,Result.andThen_ok,invoke];rw [fK' hok,eJ']
    unfold Oper.wp;rw [hr,Oper.upon_enter];refine hcall.mono fun e w' he=>?_;cases e with
    | returned v =>
     have he':put n s o.dst v fun s'=>k s' w':=he;obtain ⟨s',hF',hs⟩:=hF.put he';exact hk _ _ _ hF' hs
    | panicked ch=>exact hp _ _ _ _ hF he
    | outgrown=>exact he.elim
   ·exact h1.elim
  | builtin b =>
   simp only [hc] at h;have h1:=hF.wvs _ _ h;have e1:(c.args.toList.map a.eval).toArray = c.args.map a.eval:=(eJ' a c.args).symm;simp only [e1] at h1;cases b <;> simp only at h1
   case len =>
    refine ak' (m:=Builtin.len_ c.argTypes o.type (c.args.map a.eval)) (by simp [execOp,hop,resolve,hc,invoke,builtin]) hF ?_ hk;split at h1
    ·rename_i ad m cap T hvs hts
     split at h1
     ·rename_i q hs
      obtain ⟨e,sz,bs⟩:=q;obtain ⟨hu,_⟩:=hτ.slcs T e sz bs hs;unfold EvRun;refine ⟨_,w,?_,h1⟩;rw [<- e1,hvs];have hat:c.argTypes = #[T]:=Array.ext' (by simpa using hts);rw [hat];simp [Builtin.len_,run_underlying hu,goInt]
     ·exact h1
    ·exact h1
   case append=>exact ak' (by simp [execOp,hop,resolve,hc,invoke,builtin]) hF h1 hk
   case cap=>exact ak' (by simp [execOp,hop,resolve,hc,invoke,builtin]) hF h1 hk
   case copy=>exact ak' (by simp [execOp,hop,resolve,hc,invoke,builtin]) hF h1 hk
   case min=>exact ak' (by simp [execOp,hop,resolve,hc,invoke,builtin]) hF h1 hk
   case max=>exact ak' (by simp [execOp,hop,resolve,hc,invoke,builtin]) hF h1 hk
   case clear=>exact ak' (by simp [execOp,hop,resolve,hc,invoke,builtin]) hF h1 hk
   case delete=>exact ak' (by simp [execOp,hop,resolve,hc,invoke,builtin]) hF h1 hk
  | invoke r m=>simp only [hc] at h
 case defer c =>
  cases hc:c.callee with
  | value f =>
   simp only [hc] at h;have h1:=hF.wvs _ _ (hF.wv h);split at h1
   ·rename_i fn first captured hg
    have hr:(execOp a.eval o).run P w = .ok (.defer { target:=.fn fn captured,args:=first ++ (c.args.toList.map a.eval).toArray }) w:=by
     simp only [execOp,hop,resolve,hc,hg,Deferred.ofValue,Sem.run_bind,Sem.run_pure,Result.andThen_ok];rw [eJ']
    have hF2:Fr n { a with defers:={ target:=.fn fn captured,args:=first ++ (c.args.toList.map a.eval).toArray } :: a.defers } ⟨s.e,{ target:=.fn fn captured,args:=first ++ (c.args.toList.map a.eval).toArray } :: s.d⟩ :=
     ⟨hF.size,by simp [hF.defers],hF.has⟩
    obtain ⟨s',hF',hs⟩:=hF2.put h1;unfold Oper.wp;rw [hr,Oper.upon_defer];exact hk _ _ _ hF' hs
   ·exact h1.elim
  | builtin b=>simp only [hc] at h
  | invoke r m=>simp only [hc] at h
 case nilCheck x =>
  have h1:=hF.wv h;split at h1
  ·rename_i ad hx
   exact aw' (by simp [execOp,hop,hx]) hF h1 hk
  ·rename_i f us vs hx
   exact aw' (by simp [execOp,hop,hx]) hF h1 hk
  ·rename_i t u hx
   exact aw' (by simp [execOp,hop,hx]) hF h1 hk
  ·exact h1.elim
 case panic x =>
  have h1:=hF.wv h;split at h1
  ·rename_i t u hx
   unfold Oper.wp;have hr:(execOp a.eval o).run P w = .halt (.panic (.iface t u)) w:=by simp [execOp,hop,hx,Instr.panic]
   rw [hr,Oper.upon_panic];exact hp _ _ _ _ hF h1
  ·exact h1.elim
theorem qv' (l:List Oper) (j:Nat):dstOf l j = (l.toArray[j]?).bind (·.dst):=by
 unfold dstOf;rw [dE'];cases h:l[j]? <;> simp [h]
theorem jP' {l:List Oper} {j:Nat} {want:Bool} {d:Nat} {v:Value} (hg:o.guard = some (j,want)) (hd:dstOf l j = some d) (hv:a.tmps[d]? = some v) :
  Region.wanted o (yielded l.toArray a.tmps) = ((match v with | .bool b=>some b | _=>none) == some want):=by
 rw [qv'] at hd;simp only [Region.wanted,hg,yielded,hd,Option.bind_some,hv];cases v <;> rfl
theorem eK' (hτ:ax' P τ) {l:List Oper} {k:St -> World -> Prop} {kp:List PanicEntry -> St -> World -> Prop} {Q:Exit -> Act -> World -> Prop}
  (hk:∀ s' w' a',Fr n a' s' -> k s' w' -> Q .normal a' w') (hp:∀ ch s' w' a',Fr n a' s' -> kp ch s' w' -> Q (.panic ch) a' w') :
  ∀ (r:List Oper) (s:St) (w:World) (a:Act),Fr n a s -> wpL P τ n l k kp r s w -> wpList P l.toArray Q r a w
 | [],s,w,a,hF,h=>hk _ _ _ hF h
 | o :: r,s,w,a,hF,h=>by
  have ih:=eK' hτ (l:=l) (Q:=Q) hk hp r;have hstep:∀ (s₀:St),Fr n a s₀ -> wp1 P τ n o s₀ w (wpL P τ n l k kp r) kp -> o.wp P a w (wpList P l.toArray Q r) Q:=fun s₀ h₀ h₁ =>
   nT' hτ h₀ h₁ (fun s' w' a' hF' hs=>ih s' w' a' hF' hs) hp
  have hskip:∀ (s₀:St),Fr n a s₀ -> (put n s₀ o.dst undef fun s'=>wpL P τ n l k kp r s' w) -> wpList P l.toArray Q r (a.put o.dst undef) w:=fun s₀ h₀ h₁=>by
   obtain ⟨s',hF',hs⟩:=h₀.put h₁;exact ih s' w _ hF' hs
  rw [qt'] at h;unfold wpList;cases hg:o.guard with
  | none =>
   rw [hg] at h;rw [if_pos (by simp [Region.wanted,hg])];exact .inl (hstep s hF h)
  | some q =>
   obtain ⟨j,want⟩:=q;rw [hg] at h;simp only at h;cases hd:dstOf l j with
   | none=>rw [hd] at h; exact h.elim
   | some d =>
    rw [hd] at h;simp only at h;cases hv:get s.e d with
    | none=>rw [hv] at h; exact h.elim
    | some v =>
     rw [hv] at h;have hw:=jP' (a:=a) hg hd (hF.has d v hv);cases v <;> simp only at h
     case bool c =>
      cases want <;> simp only at h <;> rcases br_cases h with ⟨e,h2⟩ | ⟨e,h2⟩ <;> subst e
      ·rw [if_neg (by rw [hw]; simp)]
       exact hskip _ (hF.again hv) h2
      ·rw [if_pos (by rw [hw]; simp)]
       exact .inl (hstep _ (hF.again hv) h2)
      ·rw [if_pos (by rw [hw]; simp)]
       exact .inl (hstep _ (hF.again hv) h2)
      ·rw [if_neg (by rw [hw]; simp)]
       exact hskip _ (hF.again hv) h2
     case tuple vs =>
      rw [if_neg (by rw [hw]; simp)];exact hskip _ hF h
theorem nU' {K K':Exit -> St -> World -> Prop} (h:∀ e s w,K e s w -> K' e s w) (e:Exit) (a:Act) (w:World) (hl:lift n K e a w):lift n K' e a w :=
 let ⟨s,hF,hs⟩:=hl
 ⟨s,hF,h _ _ _ hs⟩
theorem aX' (hτ:ax' P τ):∀ (c:Code) (s:St) (w:World) (K:Exit -> St -> World -> Prop),wpx P τ n c s w K -> ∀ a,Fr n a s -> c.wp P (lift n K) a w:=by
 intro c
 induction c with
 | skip=>exact fun s w K h a hF=>wp_skip ⟨s,hF,h⟩
 | region id ops draw =>
  intro s w K h a hF;cases draw with
  | true=>unfold wpx at h; simp only at h; unfold EvCode at h; exact h a hF
  | false =>
   refine wp_region_list ?_;have:=eK' hτ (n:=n) (l:=ops.toList) (Q:=lift n K) (k:=K .normal) (kp:=fun ch=>K (.panic ch)) (fun s' w' a' hF' hs=>⟨s',hF',hs⟩) (fun ch s' w' a' hF' hs=>⟨s',hF',hs⟩) ops.toList s w a hF h
   simpa using this
 | seq x y ihx ihy =>
  intro s w K h a hF;refine wp_seq ?_;refine Go.wp_mono (ihx s w _ h a hF) fun e a' w' hl=>?_;obtain ⟨s',hF',hs⟩:=hl;cases e with
  | normal=>exact ihy s' w' K hs a' hF'
  | exit id=>exact ⟨s',hF',hs⟩
  | goto l=>exact ⟨s',hF',hs⟩
  | ret=>exact ⟨s',hF',hs⟩
  | panic ch=>exact ⟨s',hF',hs⟩
  | outgrown=>exact ⟨s',hF',hs⟩
 | cond c x y ihx ihy =>
  intro s w K h a hF;have h1:=hF.wv h;split at h1
  ·rename_i t ht
   rcases br_cases h1 with ⟨e,h2⟩ | ⟨e,h2⟩
   ·subst e; exact wp_cond_true ht (ihx s w K h2 a hF)
   ·subst e; exact wp_cond_false ht (ihy s w K h2 a hF)
  ·exact h1.elim
 | block id x ih =>
  intro s w K h a hF;refine wp_block ?_;refine Go.wp_mono (ih s w _ h a hF) fun e a' w' hl=>?_;obtain ⟨s',hF',hs⟩:=hl;cases e with
  | normal=>exact ⟨s',hF',hs⟩
  | exit j =>
   simp only [Exit.inBlock];simp only [ma'] at hs
   by_cases hj:j = id
   ·subst hj; rw [if_pos rfl]; simp at hs; exact ⟨s',hF',hs⟩
   ·rw [if_neg hj]
    have:Nat.beq j id = false:=by
     cases hb:Nat.beq j id with
     | true=>exact absurd (Nat.eq_of_beq_eq_true hb) hj
     | false=>rfl
    rw [this] at hs;exact ⟨s',hF',hs⟩
  | goto l=>exact ⟨s',hF',hs⟩
  | ret=>exact ⟨s',hF',hs⟩
  | panic ch=>exact ⟨s',hF',hs⟩
  | outgrown=>exact ⟨s',hF',hs⟩
 | exit id=>exact fun s w K h a hF=>wp_exit ⟨s,hF,h⟩
 | ret=>exact fun s w K h a hF=>wp_ret ⟨s,hF,h⟩
 | label l=>exact fun s w K h a hF=>wp_label ⟨s,hF,h⟩
 | loop x ih=>intro s w K h a hF; unfold wpx at h; simp only at h; unfold EvCode at h; exact h a hF
 | rangeFunc f ps x y ihx ihy=>intro s w K h a hF; unfold wpx at h; simp only at h; unfold EvCode at h; exact h a hF
 | scope x ih=>intro s w K h a hF; unfold wpx at h; simp only at h; unfold EvCode at h; exact h a hF
 | goto l=>intro s w K h a hF; unfold wpx at h; simp only at h; unfold EvCode at h; exact h a hF
 | refuse m=>intro s w K h a hF; unfold wpx at h; simp only at h; unfold EvCode at h; exact h a hF
end
def ini:List Value -> Nat -> List (Nat × Value)
 | [],_=>[]
 | v :: r,i=>(i,v) :: ini r (i + 1)
def qw' (P:Program) (s:St) (l:List ResultVar):World -> (List Value -> Prop) -> Prop :=
 List.rec (motive:=fun _=>World -> (List Value -> Prop) -> Prop) (fun _ k=>k []) (fun x _ ih w k=>match x with
  | .tmp t=>match get s.e t with
   | some v=>ih w fun vs=>k (v :: vs)
   | none=>False
  | .cell t T=>match get s.e t with
   | some (.pointer (some a))=>EvRun P (loadVar T a) w fun v w'=>w' = w /\ ih w fun vs=>k (v :: vs)
   | _=>False) l
theorem qx' (P:Program) (s:St) (t:Nat) (r:List ResultVar) (w:World) (k:List Value -> Prop):qw' P s (.tmp t :: r) w k = (match get s.e t with
   | some v=>qw' P s r w fun vs=>k (v :: vs)
   | none=>False):=rfl
theorem nV' (P:Program) (s:St) (t:Nat) (T:TypeId) (r:List ResultVar) (w:World) (k:List Value -> Prop):qw' P s (.cell t T :: r) w k = (match get s.e t with
   | some (.pointer (some a))=>EvRun P (loadVar T a) w fun v w'=>w' = w /\ qw' P s r w fun vs=>k (v :: vs)
   | _=>False):=rfl
def one:List Value -> Value
 | [v]=>v
 | vs=>.tuple vs.toArray
def fnK (P:Program) (rs:List ResultVar) (R:Ending -> World -> Prop):Exit -> St -> World -> Prop
 | .normal,s,w=>match s.d with
  | []=>qw' P s rs w fun vs=>R (.returned (one vs)) w
  | _=>False
 | .ret,s,w=>match s.d with
  | []=>qw' P s rs w fun vs=>R (.returned (one vs)) w
  | _=>False
 | .panic ch,s,w=>match s.d with
  | []=>R (.panicked ch) w
  | _=>False
 | .outgrown,_,w=>R .outgrown w
 | _,_,_=>False
theorem iM':∀ (l:List Value) (i t:Nat) (v:Value),get (ini l i) t = some v -> i <= t /\ l[t - i]? = some v
 | [],i,t,v,h=>by simp [ini,kZ'] at h
 | u :: r,i,t,v,h=>by
  simp only [ini,gj'] at h;cases hb:Nat.beq i t with
  | true =>
   rw [hb] at h;have e:=Nat.eq_of_beq_eq_true hb;subst e;have:u = v:=by simpa using h
   subst this;simp
  | false =>
   rw [hb] at h;obtain ⟨h1,h2⟩:=iM' r (i + 1) t v h;refine ⟨by omega,?_⟩;rw [show t - i = (t - (i + 1)) + 1 by omega]
   simpa using h2
def uw' (tmps:Array Value):ResultVar -> Sem Value
 | .tmp t=>pure (tmps.getD t undef)
 | .cell ad t=>do loadVar t (<- asAddr (tmps.getD ad undef))
theorem iN' {P:Program} {a:Act} {s:St} {n:Nat} (hF:Fr n a s):∀ (rs:List ResultVar) (w:World) (k:List Value -> Prop),qw' P s rs w k ->
  ∃ vs,(rs.mapM (m:=Sem) (uw' a.tmps)).run P w = .ok vs w /\ vs.length = rs.length /\ k vs
 | [],w,k,h=>⟨[],by simp,rfl,h⟩
 | .tmp t :: r,w,k,h=>by
  rw [qx'] at h;split at h
  ·rename_i v hv
   obtain ⟨vs,h1,h2,h3⟩:=iN' hF r w _ h;have hg:a.tmps.getD t undef = v:=by simp [hF.has t v hv]
   refine ⟨v :: vs,?_,by simp [h2],h3⟩;have e1:(uw' a.tmps (.tmp t)).run P w = .ok v w:=by simp [uw',hg]
   simp only [List.mapM_cons,Sem.run_bind,Sem.run_pure,Result.andThen_ok,e1,h1]
  ·exact h.elim
 | .cell t T :: r,w,k,h=>by
  rw [nV'] at h;split at h
  ·rename_i ad hv
   unfold EvRun at h;obtain ⟨v,w',hr,rfl,h'⟩:=h;obtain ⟨vs,h1,h2,h3⟩:=iN' hF r w' _ h';have hg:a.tmps.getD t undef = .pointer (some ad):=by simp [hF.has t _ hv]
   refine ⟨v :: vs,?_,by simp [h2],h3⟩;have e1:(uw' a.tmps (.cell t T)).run P w' = .ok v w':=by simp [uw',hg,asAddr,hr]
   simp only [List.mapM_cons,Sem.run_bind,Sem.run_pure,Result.andThen_ok,e1,h1]
  ·exact h.elim
theorem cE' {P:Program} {fn:Func} {a:Act} {s:St} {n:Nat} (hF:Fr n a s) {w:World} {k:List Value -> Prop} (h:qw' P s fn.results.toList w k) :
  ∃ vs,(results fn a.tmps).run P w = .ok (one vs) w /\ k vs:=by
 obtain ⟨vs,h1,h2,h3⟩:=iN' hF _ _ _ h;refine ⟨vs,?_,h3⟩;have e:results fn a.tmps = (do let vs <- fn.results.mapM (uw' a.tmps); pure (if h:vs.size = 1 then vs[0] else .tuple vs)):=rfl;rw [e,Array.mapM_eq_mapM_toList];simp only [bind_pure_comp,Sem.run_map] at h1 ⊢;rw [h1];simp only [Result.andThen_ok]
 match vs with
 | []=>simp [one]
 | [v]=>simp [one]
 | u :: v :: r=>simp [one]
theorem qy' {P:Program} {τ:Tau} {f:FuncId} {fn:Func} {c:Code} {args:List Value} {w:World} {R:Ending -> World -> Prop} (n:Nat) (rs:List ResultVar) (hτ:ax' P τ)
  (hf:P.funcs[f]? = some fn) (hb:fn.body = some c) (hn:fn.ntmps = n) (hrs:fn.results.toList = rs) (hle:args.length <= n)
  (h:wpx P τ n c ⟨ini args 0,[]⟩ w (fnK P rs R)):Calls P f args.toArray w R:=by
 subst hn hrs;refine calls_of_wp hf hb ?_;have hF:Fr fn.ntmps { tmps:=args.toArray ++ Array.replicate (fn.ntmps - args.toArray.size) undef,defers:=[] } ⟨ini args 0,[]⟩:=by
  refine ⟨by simp; omega,rfl,fun t v ht=>?_⟩;obtain ⟨_,h2⟩:=iM' _ _ _ _ ht;rw [Nat.sub_zero] at h2;have hlt:t < args.length:=(List.getElem?_eq_some_iff.1 h2).1;rw [Array.getElem?_append_left (by simpa using hlt)]
  simpa using h2
 refine Go.wp_mono (aX' hτ c _ w _ h _ hF) fun e a' w' hl=>?_;obtain ⟨s,hF',hs⟩:=hl;have hd:=hF'.defers;cases e with
 | normal =>
  simp only [fnK] at hs;split at hs
  ·rename_i h0
   obtain ⟨vs,h1,h2⟩:=cE' hF' hs;exact ⟨by rw [hd,h0],_,h1,h2⟩
  ·exact hs.elim
 | ret =>
  simp only [fnK] at hs;split at hs
  ·rename_i h0
   obtain ⟨vs,h1,h2⟩:=cE' hF' hs;exact ⟨by rw [hd,h0],_,h1,h2⟩
  ·exact hs.elim
 | panic ch =>
  simp only [fnK] at hs;split at hs
  ·rename_i h0
   exact ⟨by rw [hd,h0],hs⟩
  ·exact hs.elim
 | outgrown=>exact hs
 | exit id=>exact hs.elim
 | goto l=>exact hs.elim
theorem br {c:Bool} {A B:Prop} (h1:c = true -> A) (h2:c = false -> B):Br c A B:=by
 cases c
 ·exact h2 rfl
 ·exact h1 rfl
theorem ac' {p:Prop} [Decidable p] {A B:Prop} (h1:p -> A) (h2:¬ p -> B):Br (decide p) A B :=
 br (fun h=>h1 (of_decide_eq_true h)) (fun h=>h2 (of_decide_eq_false h))
theorem iO' {p:Prop} [Decidable p] {A B:Prop} (h1:p -> B) (h2:¬ p -> A):Br (!decide p) A B :=
 br (fun h=>h2 (by simpa using h)) (fun h=>h1 (by simpa using h))
theorem au' {p:Prop} [Decidable p] {A B:Prop} (h:p) (hA:A):Br (decide p) A B:=ac' (fun _=>hA) (fun hn=>absurd h hn)
theorem cj' {p:Prop} [Decidable p] {A B:Prop} (h:¬ p) (hB:B):Br (decide p) A B:=ac' (fun hn=>absurd hn h) (fun _=>hB)
theorem sO' {r:Int} {k:Value -> Prop} (h1:-9223372036854775808 <= r) (h2:r <= 9223372036854775807) (hk:k (.int .i64 r)):EvInt .i64 r k:=by
 unfold EvInt;exact ⟨_,rfl,by rw [IntWalk.i64_in r (by omega)]; exact hk⟩
theorem intw {j:IntKind} {r:Int} {k:Value -> Prop} (hk:k (.int j (j.wrap r))):EvInt j r k:=by
 unfold EvInt;exact ⟨_,rfl,hk⟩
theorem intv {j:IntKind} {r:Int} {k:Value -> Prop} (x:Int) (h:j.wrap r = x) (hk:k (.int j x)):EvInt j r k:=by
 subst h;exact intw hk
theorem run {P:Program} {m:Sem Value} {w w':World} {v:Value} {k:Value -> World -> Prop} (h:m.run P w = .ok v w') (hk:k v w'):EvRun P m w k:=by
 unfold EvRun; exact ⟨v,w',h,hk⟩
theorem ux' {P:Program} {m:Sem Unit} {w w':World} {k:World -> Prop} (h:m.run P w = .ok () w') (hk:k w'):EvRunU P m w k:=by
 unfold EvRunU; exact ⟨w',h,hk⟩
theorem ld {w:World} {a:Addr} {v:Value} {k:Value -> Prop} (h:w.cell? a = some v) (hk:k v):EvLd w a k:=by
 unfold EvLd; exact ⟨v,h,hk⟩
theorem dO' (b o n:Nat):(⟨b,o,none⟩:Addr).add n = ⟨b,o + n,none⟩:=by
 unfold Addr.add;split
 ·rename_i h; subst h; rfl
 ·rfl
theorem ix {b o len sz:Nat} {i:Int} {k:Addr -> Prop} (j:Nat) (hi:i = j) (h1:j < len) (hk:k ⟨b,o + j * sz,none⟩):EvIx (some ⟨b,o,none⟩) len sz i k:=by
 unfold EvIx;refine ⟨_,rfl,by omega,by omega,?_⟩;rw [dO',hi,Int.toNat_natCast];exact hk
theorem ab' {P:Program} {f:FuncId} {args:Array Value} {w:World} {k:Value -> World -> Prop} {kp:List PanicEntry -> World -> Prop} {R:Ending -> World -> Prop}
  (h:di' P f /\ Calls P f args w R) (hk:∀ e w',R e w' -> lZ' k kp e w'):EvCall P f args w k kp:=by
 unfold EvCall;exact ⟨h.1,h.2.mono hk⟩
structure Kp (X:List Nat) (w w':World):Prop where
 os:w'.os = w.os
 tape:w'.tape = w.tape
 output:w'.output = w.output
 size:w.heap.size <= w'.heap.size
 block:∀ b,b < w.heap.size -> b ∉ X -> w'.heap[b]? = w.heap[b]?
theorem Kp.refl (X:List Nat) (w:World):Kp X w w:=⟨rfl,rfl,rfl,Nat.le_refl _,fun _ _ _=>rfl⟩
theorem Kp.trans {X Y:List Nat} {a b c:World} (h:Kp X a b) (k:Kp Y b c) (hs:∀ x,x ∈ Y -> x < a.heap.size -> x ∈ X):Kp X a c :=
 ⟨k.os.trans h.os,k.tape.trans h.tape,k.output.trans h.output,Nat.le_trans h.size k.size,fun i hi hx =>
  (k.block i (Nat.lt_of_lt_of_le hi h.size) fun hy=>hx (hs i hy hi)).trans (h.block i hi hx)⟩
theorem Kp.tr {X:List Nat} {a b c:World} (h:Kp X a b) (k:Kp [] b c):Kp X a c:=h.trans k (fun _ h=>by cases h)
theorem Kp.weak {X Y:List Nat} {a b:World} (h:Kp X a b) (hs:∀ x,x ∈ X -> x < a.heap.size -> x ∈ Y):Kp Y a b :=
 ⟨h.os,h.tape,h.output,h.size,fun i hi hx=>h.block i hi fun hy=>hx (hs i hy hi)⟩
theorem Kp.alloc (w:World) (o:Obj):Kp [] w (w.alloc o) :=
 ⟨rfl,rfl,rfl,by simp,fun i hi _=>RowKit.Below.heap_alloc _ _ _ hi⟩
theorem Kp.set (w:World) (a:Addr) (v:Value):Kp [a.block] w (w.setCell a v) :=
 ⟨rfl,rfl,rfl,by simp [World.setCell],fun i _ hx=>RowKit.Below.heap_setCell _ _ _ _ (by simpa using hx)⟩
theorem Kp.below {w w':World} (h:Kp [] w w'):RowKit.Below w.heap.size w w':=⟨h.os,h.tape,h.output,h.size,fun i hi=>h.block i hi (by simp)⟩
theorem Kp.dr {X:List Nat} {w w':World} (h:Kp X w w') (m:Nat):Kp X w { w' with drawn:=m }:=⟨h.os,h.tape,h.output,h.size,h.block⟩
theorem Kp.rd {X:List Nat} {w w':World} {m:Nat} (h:Kp X { w with drawn:=m } w'):Kp X w w':=⟨h.os,h.tape,h.output,h.size,h.block⟩
theorem Kp.newSt {w1 w2 w3:World} {b:Nat} (k2:Kp [] w1 w2) (hb:b = w1.heap.size) (k3:Kp [b] w2 w3):Kp [] w1 w3 :=
 k2.trans k3 fun x hx hl=>by
  have:x = b:=by simpa using hx
  omega
def Cl (h:Array Obj) (b o:Nat) (v:Value):Prop:=∃ c T fz,h[b]? = some (.cells c T fz) /\ c[o]? = some v
theorem Cl.cell {w:World} {b o:Nat} {v:Value} (h:Cl w.heap b o v):w.cell? ⟨b,o,none⟩ = some v:=by
 obtain ⟨c,T,fz,h1,h2⟩:=h;simp [World.cell?,h1,h2]
theorem Cl.of {w:World} {b o:Nat} {v:Value} (h:w.cell? ⟨b,o,none⟩ = some v):Cl w.heap b o v:=by
 unfold World.cell? at h;split at h
 ·rename_i c T fz hb; exact ⟨c,T,fz,hb,by simpa using h⟩
 ·cases h
theorem Cl.lt {h:Array Obj} {b o:Nat} {v:Value} (hc:Cl h b o v):b < h.size:=by
 obtain ⟨c,T,fz,h1,_⟩:=hc;rcases Nat.lt_or_ge b h.size with h' | h'
 ·exact h'
 ·simp [Array.getElem?_eq_none h'] at h1
theorem Cl.kp {X:List Nat} {w w':World} {b o:Nat} {v:Value} (hc:Cl w.heap b o v) (h:Kp X w w') (hx:b ∉ X):Cl w'.heap b o v:=by
 have hl:=hc.lt;obtain ⟨c,T,fz,h1,h2⟩:=hc;exact ⟨c,T,fz,by rw [h.block b hl hx]; exact h1,h2⟩
def Bk (h:Array Obj) (b:Nat) (cs:List Value) (T:TypeId):Prop:=h[b]? = some (.cells cs.toArray T (0,0))
theorem Bk.cl {h:Array Obj} {b:Nat} {cs:List Value} {T:TypeId} (hb:Bk h b cs T) {o:Nat} {v:Value} (hv:cs[o]? = some v):Cl h b o v :=
 ⟨_,_,_,hb,by simpa using hv⟩
theorem Bk.lt {h:Array Obj} {b:Nat} {cs:List Value} {T:TypeId} (hb:Bk h b cs T):b < h.size:=by
 rcases Nat.lt_or_ge b h.size with h' | h'
 ·exact h'
 ·unfold Bk at hb; simp [Array.getElem?_eq_none h'] at hb
theorem Bk.kp {X:List Nat} {w w':World} {b:Nat} {cs:List Value} {T:TypeId} (hb:Bk w.heap b cs T) (h:Kp X w w') (hx:b ∉ X):Bk w'.heap b cs T:=by
 have hl:=hb.lt;unfold Bk;rw [h.block b hl hx]; exact hb
theorem fill {o:Option (List Value)} {k:List Value -> Prop} (cs:List Value) (h:o = some cs) (hk:k cs):EvFill o k:=by
 unfold EvFill;exact ⟨cs,h,hk⟩
theorem new {w:World} {T:TypeId} {cs:List Value} {k:Nat -> World -> Prop} (hk:∀ (b:Nat) (w':World),b = w.heap.size -> Bk w'.heap b cs T -> w'.heap.size = b + 1 -> Kp [] w w' -> k b w'):EvNew w T cs k:=by
 unfold EvNew;refine ⟨_,_,⟨rfl,rfl⟩,hk _ _ rfl ?_ (by simp) (Kp.alloc _ _)⟩;show (w.heap.push _)[_]? = _;simp
theorem st {w:World} {b o:Nat} {v:Value} {k:World -> Prop} {cs:List Value} {T:TypeId} (hb:Bk w.heap b cs T) (ho:o < cs.length) (hv:v.oneCell' = true)
  (hk:∀ w',Bk w'.heap b (cs.set o v) T -> w'.heap.size = w.heap.size -> Kp [b] w w' -> k w'):EvSt w ⟨b,o,none⟩ v k:=by
 unfold EvSt;have hb':w.heap[b]? = some (.cells cs.toArray T (0,0)):=hb;have hl:=hb.lt;refine ⟨⟨cs[o],(hb.cl (by simp [ho])).cell⟩,?_,hv,?_⟩
 ·simp [World.frozen?,hb']
 ·refine hk _ ?_ (by simp [World.setCell]) (Kp.set w ⟨b,o,none⟩ v)
  unfold Bk;simp only [World.setCell,Array.getElem?_modify,if_true,hb'];simp
theorem ldN {w:World} {b o n:Nat} {k:Value -> Prop} (cs:List Value) (hn:cs.length = n) (h:∀ j v,cs[j]? = some v -> Cl w.heap b (o + j) v) (hk:k (.agg cs.toArray)):EvLdN w ⟨b,o,none⟩ n k:=by
 unfold EvLdN;refine ⟨cs,hn,fun j v hv=>?_,hk⟩;have:=(h j v hv).cell;unfold Addr.add;split
 ·rename_i h0; subst h0; simpa using this
 ·exact this
theorem stN {P:Program} {w:World} {b:Nat} {vs:List Value} {k:World -> Prop} {cs:List Value} {T:TypeId} (hb:Bk w.heap b cs T) (hl:vs.length = cs.length) (hv:∀ v ∈ vs,v.oneCell' = true)
  (hk:∀ w',Bk w'.heap b vs T -> w'.heap.size = w.heap.size -> Kp [b] w w' -> k w'):EvRunU P (storeCells ⟨b,0,none⟩ vs) w k:=by
 have key:∀ (r:List Value) (i:Nat) (w0:World) (pre:List Value),(∀ v ∈ r,v.oneCell' = true) -> pre.length = i -> (∃ rest,Bk w0.heap b (pre ++ rest) T /\ rest.length = r.length) -> w0.heap.size = w.heap.size -> Kp [b] w w0 ->
   ∃ w',(storeCells ⟨b,0,none⟩ r i).run P w0 = .ok () w' /\ Bk w'.heap b (pre ++ r) T /\ w'.heap.size = w.heap.size /\ Kp [b] w w':=by
  intro r
  induction r with
  | nil =>
   intro i w0 pre _ _ ⟨rest,hbk,hlen⟩ hsz hkp;have:rest = []:=List.length_eq_zero_iff.1 hlen;subst this;exact ⟨w0,by simp [storeCells],hbk,hsz,hkp⟩
  | cons v r ih =>
   intro i w0 pre hv1 hpl ⟨rest,hbk,hlen⟩ hsz hkp
   match rest,hlen with
   | u :: rest,hlen =>
   have hcell:w0.cell? ⟨b,i,none⟩ = some u:=(hbk.cl (by rw [<- hpl]; simp)).cell;have hb':w0.heap[b]? = some (.cells (pre ++ u :: rest).toArray T (0,0)):=hbk;have hst:=run_store P w0 ⟨b,i,none⟩ v .plain (hv1 v (by simp));have hfz:w0.frozen? ⟨b,i,none⟩ = false:=by simp [World.frozen?,hb']
   simp only [hcell,hfz,Bool.false_eq_true,if_false] at hst;have hadd:(⟨b,0,none⟩:Addr).add i = ⟨b,i,none⟩:=by
    unfold Addr.add; split
    ·rename_i h0; subst h0; rfl
    ·simp
   have hbk':Bk (w0.setCell ⟨b,i,none⟩ v).heap b ((pre ++ [v]) ++ rest) T:=by
    unfold Bk;simp only [World.setCell,Array.getElem?_modify,if_true,hb'];subst hpl;simp
   obtain ⟨w',h1,h2,h3,h4⟩:=ih (i + 1) (w0.setCell ⟨b,i,none⟩ v) (pre ++ [v]) (fun x hx=>hv1 x (by simp [hx])) (by simp [hpl]) ⟨rest,hbk',by simpa using hlen⟩ (by simp [World.setCell,hsz])
    (hkp.trans (Kp.set w0 ⟨b,i,none⟩ v) (fun x hx _=>hx))
   refine ⟨w',?_,by simpa using h2,h3,h4⟩;simp only [storeCells,Sem.run_bind,hadd,hst,Result.andThen_ok];exact h1
 obtain ⟨w',h1,h2,h3,h4⟩:=key vs 0 w [] hv rfl ⟨cs,by simpa using hb,hl.symm⟩ rfl (Kp.refl _ _);exact ux' h1 (hk w' (by simpa using h2) h3 h4)
theorem eL' {P:Program} {c:Code} {Q:Exit -> Act -> World -> Prop} {a:Act} {w:World} {σ:Type} (I:σ -> Act -> World -> Prop) (μ:σ -> Nat) (x0:σ) (h0:I x0 a w)
  (round:∀ x a w,I x a w -> c.wp P (Exit.then (fun a' w'=>∃ y,I y a' w' /\ μ y < μ x) Q) a w):(Code.loop c).wp P Q a w:=by
 intro b k cs;have key:∀ n x a w,μ x = n -> I x a w ->
   ∃ e a' w',Q e a' w' /\ Arrives P (lone (b.at a (.code c :: .inLoop c :: k)) cs w) b k cs e a' w':=by
  intro n
  induction n using Nat.strongRecOn with
  | _ n ih =>
   intro x a w hn hI;obtain ⟨e,a₁,w₁,hq,harr⟩:=round x a w hI b (.inLoop c :: k) cs;cases e with
   | normal =>
    obtain ⟨y,hI₁,hlt⟩:=hq;obtain ⟨e₂,a₂,w₂,hq₂,harr₂⟩:=ih (μ y) (hn ▸ hlt) y a₁ w₁ rfl hI₁;exact ⟨e₂,a₂,w₂,hq₂,.of_steps (Steps.trans harr (.one step_inLoop)) harr₂⟩
   | exit id=>exact ⟨_,a₁,w₁,hq,.pass (x:=.inLoop c) rfl (fun _ _=>.inl (by simp)) harr⟩
   | goto l=>exact ⟨_,a₁,w₁,hq,.pass (x:=.inLoop c) rfl (fun _ _=>.inl (by simp)) harr⟩
   | ret=>exact ⟨_,a₁,w₁,hq,.pass (x:=.inLoop c) rfl (fun _ _=>.inl (by simp)) harr⟩
   | panic ch=>exact ⟨_,a₁,w₁,hq,.pass (x:=.inLoop c) rfl (fun _ _=>.inl (by simp)) harr⟩
   | outgrown=>exact ⟨_,a₁,w₁,hq,.pass (x:=.inLoop c) rfl (fun _ _=>.inl (by simp)) harr⟩
 obtain ⟨e,a',w',hq,harr⟩:=key _ x0 a w rfl h0;exact ⟨e,a',w',hq,.of_steps (.one step_loop) harr⟩
def Has (s:St):List (Nat × Value) -> Prop
 | []=>True
 | p :: r=>get s.e p.1 = some p.2 /\ Has s r
theorem Has.get {s:St}:∀ {l:List (Nat × Value)},Has s l -> ∀ t v,get l t = some v -> get s.e t = some v
 | [],_,t,v,hv=>by simp [Wx.get] at hv
 | (k,u) :: r,h,t,v,hv=>by
  simp only [Wx.get] at hv;cases hb:Nat.beq k t with
  | true =>
   rw [hb] at hv;have e:=Nat.eq_of_beq_eq_true hb;subst e;have:u = v:=by simpa using hv
   subst this;exact h.1
  | false=>rw [hb] at hv; exact Has.get h.2 t v hv
theorem loop {P:Program} {τ:Tau} {n:Nat} {c:Code} {s:St} {w:World} {K:Exit -> St -> World -> Prop} (hτ:ax' P τ) {σ:Type} (I:σ -> List (Nat × Value)) (R:σ -> World -> Prop) (μ:σ -> Nat) (x0:σ)
  (h0:Has s (I x0)) (hR:R x0 w)
  (round:∀ x w,R x w -> wpx P τ n c ⟨I x,s.d⟩ w (la' (fun s' w'=>∃ y,μ y < μ x /\ s'.d = s.d /\ Has s' (I y) /\ R y w') K)):EvCode P n (.loop c) s w K:=by
 unfold EvCode;intro a hF;have hex:∀ a' s',Fr n a' s' -> s'.d = s.d -> ∀ y,Has s' (I y) -> Fr n a' ⟨I y,s.d⟩:=fun a' s' hF' hd y hy =>
  ⟨hF'.size,by rw [hF'.defers,hd],fun t v hv=>hF'.has t v (hy.get t v hv)⟩
 refine eL' (fun y a w=>Fr n a ⟨I y,s.d⟩ /\ R y w) μ x0 ⟨hex a s hF rfl x0 h0,hR⟩ ?_;intro y a w ⟨hFy,hRy⟩;refine Go.wp_mono (aX' hτ c _ w _ (round y w hRy) a hFy) fun e a' w' hl=>?_;obtain ⟨s',hF',hs⟩:=hl;cases e with
 | normal =>
  obtain ⟨z,hlt,hd,hz,hRz⟩:=hs;exact ⟨z,⟨hex a' s' hF' hd z hz,hRz⟩,hlt⟩
 | exit id=>exact ⟨s',hF',hs⟩
 | goto l=>exact ⟨s',hF',hs⟩
 | ret=>exact ⟨s',hF',hs⟩
 | panic ch=>exact ⟨s',hF',hs⟩
 | outgrown=>exact ⟨s',hF',hs⟩
end Go.Wx
