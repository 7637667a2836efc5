import Derived.Test.YtpealcfjbcpoiaaGreatMl01
import Derived.Deep.Quiet
import Derived.StillTail
import Derived.OrdersHeld
import Derived.Maps.AppendAt
set_option linter.unusedVariables false
set_option linter.unusedSimpArgs false
namespace Go.Wx
@[irreducible] def EvLdQ (C:World -> Prop) (a:Addr) (k:Value -> Prop):Prop:=∃ v,(∀ w,C w -> w.cell? a = some v) /\ k v
@[irreducible] def EvLdNQ (C:World -> Prop) (a:Addr) (n:Nat) (k:Value -> Prop):Prop :=
 ∃ cs:List Value,cs.length = n /\ (∀ w,C w -> ∀ j v,cs[j]? = some v -> w.cell? (a.add j) = some v) /\ k (.agg cs.toArray)
@[irreducible] def EvCallQ (P:Program) (C:World -> Prop) (f:FuncId) (args:Array Value) (k:Value -> Prop):Prop :=
 ∃ v,di' P f /\ (∀ w,C w -> Calls P f args w fun e w'=>e = .returned v /\ C w') /\ k v
@[irreducible] def EvRunQ (P:Program) (C:World -> Prop) (m:Sem Value) (k:Value -> Prop):Prop:=∃ v,(∀ w,C w -> m.run P w = .ok v w) /\ k v
def vQ' (P:Program) (τ:Tau) (C:World -> Prop) (op:BinOp) (T:TypeId) (x y:Operand) (a b:Value) (k:Value -> Prop):Prop :=
 match a,b with
 | .int j m,.int j' n=>match nQ' j j' with
  | false=>EvRunQ P C (binOp op T (.int j m) (.int j' n)) k
  | true=>match op with
   | .add=>EvInt j (m + n) k
   | .sub=>EvInt j (m - n) k
   | .mul=>EvInt j (m * n) k
   | .eql=>k (.bool (decide (m = n)))
   | .neq=>k (.bool (decide (m ≠ n)))
   | .lss=>k (.bool (decide (m < n)))
   | .leq=>k (.bool (decide (m <= n)))
   | .gtr=>k (.bool (decide (n < m)))
   | .geq=>k (.bool (decide (n <= m)))
   | op=>EvRunQ P C (binOp op T (.int j m) (.int j' n)) k
 | .bool m,.bool n=>match look τ.ones T with
  | some 1=>match op with
   | .eql=>k (.bool (m == n))
   | .neq=>k (.bool (m != n))
   | _=>False
  | _=>False
 | a,b=>EvRunQ P C (do eqGuard op T x y a b; binOp op T a b) k
def q1 (P:Program) (τ:Tau) (n:Nat) (C:World -> Prop) (o:Oper) (s:St) (k:St -> Prop):Prop :=
 let fin:Value -> Prop:=fun v=>put n s o.dst v k
 match o.op with
 | .move x=>wv s.e x fin
 | .assign x=>wv s.e x fin
 | .pick c a b=>wv s.e c fun vc=>match vc with
  | .bool t=>Br t (wv s.e a fin) (wv s.e b fin)
  | _=>False
 | .build T ps=>wvp s.e ps.toList fun vs=>match look τ.tab T with
  | some (fs,z)=>match jN' (placeS fs) (z.map zc) vs with
   | some cs=>fin (.agg cs.toArray)
   | none=>False
  | none=>False
 | .load T x=>wv s.e x fun v=>match v with
  | .pointer (some a)=>match look τ.tab T with
   | some (_,z)=>EvLdNQ C a z.length fin
   | none=>match look τ.ones T with
    | some _=>EvLdQ C a fin
    | none=>False
  | _=>False
 | .binOp op T x y _=>wv s.e x fun a=>wv s.e y fun b=>vQ' P τ C op T x y a b fin
 | .unOp op _ x=>wv s.e x fun a=>match op,a with
  | .not,.bool b=>fin (.bool (!b))
  | .neg,.int j m=>EvInt j (0 - m) fin
  | op,a=>EvRunQ P C (Op.unary op a) fin
 | .convert src dst x=>wv s.e x fun v=>match v,look τ.ones src,look τ.ones dst with
  | .int _ m,some _,some c=>match jM' c with
   | some j=>EvInt j m fin
   | none=>EvRunQ P C (convert src dst v) fin
  | _,_,_=>EvRunQ P C (convert src dst v) fin
 | .makeFunc fn first captured=>wvs s.e first.toList fun us=>wvs s.e captured.toList fun vs=>fin (.func fn us.toArray vs.toArray)
 | .slice T x lo hi mx=>wv s.e x fun v=>wvo s.e lo fun l=>wvo s.e hi fun h=>wvo s.e mx fun m=>EvRunQ P C (Instr.sliceAt T v l h m) fin
 | .fieldAddr T x f=>wv s.e x fun v=>match v,look τ.tab T with
  | .pointer (some a),some (fs,_)=>match nth fs f with
   | some (o,_,_)=>fin (.pointer (some (a.add o)))
   | none=>False
  | _,_=>False
 | .field T x f=>wv s.e x fun v=>EvRunQ P C (Instr.field T v f) fin
 | .indexAddr T x i=>wv s.e x fun v=>wv s.e i fun j=>match v,j,look τ.slcs T with
  | .slice a len _,.int _ m,some (_,sz,_)=>EvIx a len sz m fun ad=>fin (.pointer (some ad))
  | _,_,_=>EvRunQ P C (Instr.indexAt T v j) fin
 | .index T x i=>wv s.e x fun v=>wv s.e i fun j=>EvRunQ P C (Instr.index T v j) fin
 | .lookup T x i ok=>wv s.e x fun v=>wv s.e i fun j=>EvRunQ P C (Instr.lookup T v j ok) fin
 | .extract x i=>wv s.e x fun v=>match v with
  | .tuple vs=>match nth vs.toList i with
   | some u=>fin u
   | none=>False
  | _=>False
 | .call c=>match c.callee with
  | .value f=>wv s.e f fun g=>wvs s.e c.args.toList fun vs=>match g with
   | .func (.func g) first captured=>EvCallQ P C g (first ++ vs.toArray ++ captured) fin
   | _=>False
  | .builtin b=>wvs s.e c.args.toList fun vs=>match b with
   | .len=>match vs,c.argTypes.toList with
    | [.slice _ m _],[T]=>match look τ.slcs T with
     | some _=>fin (.int .i64 m)
     | none=>EvRunQ P C (Builtin.len_ c.argTypes o.type vs.toArray) fin
    | _,_=>EvRunQ P C (Builtin.len_ c.argTypes o.type vs.toArray) fin
   | .min=>EvRunQ P C (Builtin.min_ c.argTypes o.type vs.toArray) fin
   | .max=>EvRunQ P C (Builtin.max_ c.argTypes o.type vs.toArray) fin
   | _=>False
  | _=>False
 | .nilCheck x=>wv s.e x fun v=>match v with
  | .pointer (some a)=>fin (.pointer (some a))
  | _=>False
 | _=>False
def wpQ (P:Program) (τ:Tau) (n:Nat) (C:World -> Prop) (all:List Oper) (k:St -> Prop) (l:List Oper):St -> Prop :=
 List.rec (motive:=fun _=>St -> Prop) (fun s=>k s) (fun o _ ih s=>match o.guard with
  | none=>q1 P τ n C o s ih
  | some (j,want)=>match dstOf all j with
   | none=>False
   | some d=>match get s.e d with
    | some (.bool c)=>match s with
     | ⟨e,ds⟩=>match want with
      | true=>Br c (q1 P τ n C o ⟨(d,.bool true) :: e,ds⟩ ih) (put n ⟨(d,.bool false) :: e,ds⟩ o.dst undef fun s'=>ih s')
      | false=>Br c (put n ⟨(d,.bool true) :: e,ds⟩ o.dst undef fun s'=>ih s') (q1 P τ n C o ⟨(d,.bool false) :: e,ds⟩ ih)
    | some (.tuple _)=>put n s o.dst undef fun s'=>ih s'
    | _=>False) l
theorem qz' (P:Program) (τ:Tau) (n:Nat) (C:World -> Prop) (all:List Oper) (k:St -> Prop) (o:Oper) (rest:List Oper) (s:St) :
  wpQ P τ n C all k (o :: rest) s = (match o.guard with
  | none=>q1 P τ n C o s (wpQ P τ n C all k rest)
  | some (j,want)=>match dstOf all j with
   | none=>False
   | some d=>match get s.e d with
    | some (.bool c)=>match s with
     | ⟨e,ds⟩=>match want with
      | true=>Br c (q1 P τ n C o ⟨(d,.bool true) :: e,ds⟩ (wpQ P τ n C all k rest)) (put n ⟨(d,.bool false) :: e,ds⟩ o.dst undef fun s'=>wpQ P τ n C all k rest s')
      | false=>Br c (put n ⟨(d,.bool true) :: e,ds⟩ o.dst undef fun s'=>wpQ P τ n C all k rest s') (q1 P τ n C o ⟨(d,.bool false) :: e,ds⟩ (wpQ P τ n C all k rest))
    | some (.tuple _)=>put n s o.dst undef fun s'=>wpQ P τ n C all k rest s'
    | _=>False):=rfl
section
variable {P:Program} {τ:Tau} {n:Nat} {o:Oper} {a:Act} {s:St} {C:World -> Prop}
def Yq (P:Program) (n:Nat) (C:World -> Prop) (o:Oper) (a:Act) (k:St -> Prop):Prop :=
 ∃ v,(∀ w,C w -> o.quietAt P a C w v) /\ ∃ s',Fr n (a.put o.dst v) s' /\ k s'
theorem dF' {m:Sem Value} {k:St -> Prop} (he:execOp a.eval o = (do pure (.value (<- m)))) (hF:Fr n a s) (h:EvRunQ P C m fun v=>put n s o.dst v k):Yq P n C o a k:=by
 unfold EvRunQ at h;obtain ⟨v,hr,hp⟩:=h;refine ⟨v,fun w hw=>?_,hF.put hp⟩;unfold Oper.quietAt;rw [he];have:(do pure (Next.value (<- m)):Sem Next).run P w = .ok (.value v) w:=by simp [hr w hw]
 rw [this];exact ⟨rfl,rfl⟩
theorem dv' {v:Value} {k:St -> Prop} (he:∀ w,C w -> (execOp a.eval o).run P w = .ok (.value v) w) (hF:Fr n a s) (hp:put n s o.dst v k):Yq P n C o a k:=by
 refine ⟨v,fun w hw=>?_,hF.put hp⟩;unfold Oper.quietAt;rw [he w hw];exact ⟨rfl,rfl⟩
theorem gl' {k:St -> Prop} {m:Sem Value} (he:execOp a.eval o = (do pure (.value (<- m)))) (hF:Fr n a s) (v:Value) (hm:∀ w,C w -> m.run P w = .ok v w) (hp:put n s o.dst v k):Yq P n C o a k :=
 dF' he hF (by unfold EvRunQ; exact ⟨v,hm,hp⟩)
theorem qA' (hτ:ax' P τ) {op:BinOp} {T:TypeId} {x y:Operand} {u v:Value} {k:Value -> Prop} (h:vQ' P τ C op T x y u v k) :
  EvRunQ P C (do eqGuard op T x y u v; binOp op T u v) k:=by
 unfold vQ' at h;split at h
 ·rename_i j m j' l
  split at h
  ·unfold EvRunQ at h ⊢
   obtain ⟨v,hr,hk⟩:=h;exact ⟨v,fun w hw=>by simp [bV',hr w hw],hk⟩
  ·rename_i hs
   have:=iL' hs;subst this;split at h
   all_goals (try replace h:=EvInt.elim h)
   all_goals (try unfold EvRunQ at h)
   all_goals unfold EvRunQ
   case h_10 =>
    obtain ⟨v,hr,hk⟩:=h;exact ⟨v,fun w hw=>by simp [bV',hr w hw],hk⟩
   all_goals (refine ⟨_,fun w hw=>?_,h⟩; simp [bV',binOp,Op.intArith,Op.intCmp]; try rfl)
   all_goals (by_cases e:m = l <;> simp [e])
 ·rename_i m l
  split at h
  ·rename_i hs
   obtain ⟨d,_,hb,_,_,_,_,_,hd,_⟩:=hτ.ones T 1 hs;rw [hd rfl] at hb;unfold EvRunQ;split at h
   ·exact ⟨_,fun w _=>by simp [cQ',run_eql_bool w T m l hb],h⟩
   ·exact ⟨_,fun w _=>by simp only [Sem.run_bind,cQ',Result.andThen_ok,run_neq_bool w T m l hb]; rfl,h⟩
   ·exact h.elim
  ·exact h.elim
 ·exact h
theorem jQ' (hτ:ax' P τ) {T:Nat} {fs:List (Nat × Nat × Bool)} {z:List Nat} {vs:List (Nat × Value)} {cs:List Value} (hr:look τ.tab T = some (fs,z)) (hc:jN' (placeS fs) (z.map zc) vs = some cs) (w:World) :
  (Instr.build T vs.toArray).run P w = .ok (.agg cs.toArray) w:=by
 obtain ⟨gs,hu,hfs,hinf,i,hi,_,hz⟩:=hτ.tab T fs z hr;have hplaces:∀ (l:List Field),(∀ f ∈ l,(∃ d,P.underlying f.type = some d) /\ ∃ i,P.info? f.type = some i /\ i.size ≠ 0) -> (l.mapM (m:=Sem) fun f=>do pure (f.offset,<- sizeOf f.type)).run P w = .ok (l.map fun f=>(f.offset,P.cellsOf f.type)) w:=by
  intro l
  induction l with
  | nil=>intro _; simp
  | cons f l ih =>
   intro hl;obtain ⟨_,j,hj,_⟩:=hl f (by simp);have:=ih fun g hg=>hl g (by simp [hg]);have hsz:(sizeOf f.type).run P w = .ok (P.cellsOf f.type) w:=by simp [sizeOf,typeInfo,hj,Program.cellsOf]
   simp only [List.mapM_cons,Sem.run_bind,hsz,Result.andThen_ok,Sem.run_pure,this,List.map_cons]
 have hpl:(gs.mapM (m:=Sem) fun f=>do pure (f.offset,<- sizeOf f.type)).run P w = .ok (gs.toList.map fun f=>(f.offset,P.cellsOf f.type)).toArray w:=by
  rw [Array.mapM_eq_mapM_toList];have:=hplaces gs.toList hinf;simp only [bind_pure_comp] at this ⊢;simp [this]
 have hpe:placeS fs = fun i=>(gs.toList.map fun f=>(f.offset,P.cellsOf f.type)).toArray[i]?:=by
  funext i
  unfold placeS;rw [dE',<- hfs];simp only [List.getElem?_map,List.getElem?_toArray];cases gs.toList[i]? <;> rfl
 rw [hpe] at hc;have hfill:=ed' _ _ _ hc;simp only [Instr.build,Sem.run_bind,zeroValue,typeInfo,run_program,Result.andThen_ok,hi,Sem.run_pure,hz,run_underlying hu,hpl];simp only [Value.cells];rw [hfill];simp
theorem nW' (hτ:ax' P τ) {T c:Nat} (hc:look τ.ones T = some c) {ad:Addr} {v:Value} {w:World} (hv:w.cell? ad = some v):(Instr.loadAt T (.pointer (some ad))).run P w = .ok v w:=by
 obtain ⟨d,i,hu,hn,hi,hsz,hz,h1',_⟩:=hτ.ones T c hc;cases d <;> simp_all [Instr.loadAt,Instr.sureAddr,loadVar,isAgg,run_underlying hu,gz']
theorem ni' (hτ:ax' P τ) {T:Nat} {fs:List (Nat × Nat × Bool)} {z:List Nat} (hr:look τ.tab T = some (fs,z)) {ad:Addr} {cs:List Value} {w:World} (hl:cs.length = z.length)
  (hc:∀ j v,cs[j]? = some v -> w.cell? (ad.add j) = some v):(Instr.loadAt T (.pointer (some ad))).run P w = .ok (.agg cs.toArray) w:=by
 obtain ⟨gs,hu,hfs,hinf,i,hi,hsz,hz⟩:=hτ.tab T fs z hr;have:=run_loadCells_list (P:=P) (w:=w) ad cs hc;rw [hl] at this;simp [Instr.loadAt,Instr.sureAddr,loadVar,isAgg,run_underlying hu,sizeOf,typeInfo,hi,hsz,this]
theorem fX' (hτ:ax' P τ) {T f:Nat} {fs:List (Nat × Nat × Bool)} {z:List Nat} (hr:look τ.tab T = some (fs,z)) {off sz:Nat} {ag:Bool} (hf:nth fs f = some (off,sz,ag)) (ad:Addr) (w:World) :
  (Instr.fieldAt T (.pointer (some ad)) f).run P w = .ok (.pointer (some (ad.add off))) w:=by
 obtain ⟨gs,hu,hfs,hinf,_⟩:=hτ.tab T fs z hr;rw [dE',<- hfs] at hf;simp only [List.getElem?_map] at hf;cases hg:gs.toList[f]? with
 | none=>simp [hg] at hf
 | some g =>
  simp [hg] at hf;obtain ⟨ho,_,_⟩:=hf;obtain ⟨_,j,hj,hsz⟩:=hinf g (List.mem_of_getElem? hg);have hg':gs[f]? = some g:=by simpa using hg
  simp [Instr.fieldAt,run_underlying hu,hg',Instr.sureAddr,fieldPlace,sizeOf,typeInfo,hj,hsz,ho]
theorem jR' (hτ:ax' P τ) {T e sz bs:Nat} (hs:look τ.slcs T = some (e,sz,bs)) {ad:Addr} {len cap:Nat} {j:IntKind} {m:Int} (h0:0 <= m) (hlt:m < len) (w:World) :
  (Instr.indexAt T (.slice (some ad) len cap) (.int j m)).run P w = .ok (.pointer (some (ad.add (m.toNat * sz)))) w:=by
 obtain ⟨hu,inf,hinf,hsz,_⟩:=hτ.slcs T e sz bs hs;simp [Instr.indexAt,asIntOf,run_underlying hu,h0,hlt,sizeOf,typeInfo,hinf,hsz]
theorem lc' (hτ:ax' P τ) {T U c0 c:Nat} (hT:look τ.ones T = some c0) (hU:look τ.ones U = some c) {j j0:IntKind} (hj:jM' c = some j) (m:Int) (w:World) :
  (convert T U (.int j0 m)).run P w = .ok (.int j (j.wrap m)) w:=by
 obtain ⟨d,i,hu,_⟩:=hτ.ones T c0 hT;obtain ⟨d',i',hu',_,_,_,_,_,_,hd'⟩:=hτ.ones U c hU;have:=hd' j hj;subst this;simp [convert,run_underlying hu,run_underlying hu',Conv.intToInt]
theorem qB' (hτ:ax' P τ) {k:St -> Prop} (hF:Fr n a s) (h:q1 P τ n C o s k):Yq P n C o a k:=by
 cases hop:o.op <;> simp only [q1,hop] at h
 case move x=>exact dv' (fun w _=>by simp [execOp,hop]) hF (hF.wv h)
 case assign x=>exact dv' (fun w _=>by simp [execOp,hop]) hF (hF.wv h)
 case pick c x y =>
  have h1:=hF.wv h;split at h1
  ·rename_i t ht
   rcases br_cases h1 with ⟨e,h2⟩ | ⟨e,h2⟩
   ·subst e; exact dv' (fun w _=>by simp [execOp,hop,ht,asBool]) hF (hF.wv h2)
   ·subst e; exact dv' (fun w _=>by simp [execOp,hop,ht,asBool]) hF (hF.wv h2)
  ·exact h1.elim
 case build T ps =>
  have h1:=hF.wvp _ _ h;have hm:(ps.map fun p=>(p.1,a.eval p.2)) = (ps.toList.map fun p=>(p.1,a.eval p.2)).toArray:=Array.ext' (by simp);split at h1
  ·rename_i fs z hr
   split at h1
   ·rename_i cs hc
    refine gl' (m:=Instr.build T (ps.map fun p=>(p.1,a.eval p.2))) (by simp [execOp,hop]) hF _ (fun w _=>?_) h1;rw [hm];exact jQ' hτ hr hc w
   ·exact h1.elim
  ·exact h1.elim
 case load T x =>
  have h1:=hF.wv h;split at h1
  ·rename_i ad hx
   split at h1
   ·rename_i fs z hr
    unfold EvLdNQ at h1;obtain ⟨cs,hl,hc,hput⟩:=h1;refine gl' (m:=Instr.loadAt T (a.eval x)) (by simp [execOp,hop]) hF _ (fun w hw=>?_) hput;rw [hx];exact ni' hτ hr hl (hc w hw)
   ·split at h1
    ·rename_i c hc
     unfold EvLdQ at h1;obtain ⟨v,hv,hput⟩:=h1;refine gl' (m:=Instr.loadAt T (a.eval x)) (by simp [execOp,hop]) hF _ (fun w hw=>?_) hput;rw [hx];exact nW' hτ hc (hv w hw)
    ·exact h1.elim
  ·exact h1.elim
 case binOp op T x y U=>exact dF' (m:=do eqGuard op T x y (a.eval x) (a.eval y); binOp op T (a.eval x) (a.eval y)) (by simp [execOp,hop]) hF (qA' hτ (hF.wv (hF.wv h)))
 case unOp op T x =>
  have h1:=hF.wv h;refine dF' (m:=Op.unary op (a.eval x)) (by simp [execOp,hop]) hF ?_;split at h1
  ·rename_i b hx; rw [hx]; unfold EvRunQ; exact ⟨_,fun w _=>by simp [Op.unary],h1⟩
  ·rename_i j m hx; rw [hx]; replace h1:=EvInt.elim h1; unfold EvRunQ; exact ⟨_,fun w _=>by simp [Op.unary,Op.intArith],h1⟩
  ·exact h1
 case convert T U x =>
  have h1:=hF.wv h;refine dF' (m:=convert T U (a.eval x)) (by simp [execOp,hop]) hF ?_;split at h1
  ·rename_i j0 m c0 c hx hT hU
   split at h1
   ·rename_i j hj
    replace h1:=EvInt.elim h1
    unfold EvRunQ;refine ⟨_,fun w _=>?_,h1⟩;rw [hx];exact lc' hτ hT hU hj m w
   ·exact h1
  ·exact h1
 case makeFunc fn first captured =>
  have h1:=hF.wvs _ _ (hF.wvs _ _ h);refine dv' (v:=.func fn (first.map a.eval) (captured.map a.eval)) (fun w _=>by simp [execOp,hop,Instr.makeFunc]) hF ?_;rw [eJ',eJ']; exact h1
 case slice T x lo hi mx=>exact dF' (by simp [execOp,hop]) hF (hF.wvo (hF.wvo (hF.wvo (hF.wv h))))
 case fieldAddr T x f =>
  have h1:=hF.wv h;split at h1
  ·rename_i ad fs z hx hr
   split at h1
   ·rename_i off sz ag hf
    refine gl' (m:=Instr.fieldAt T (a.eval x) f) (by simp [execOp,hop]) hF _ (fun w _=>?_) h1;rw [hx];exact fX' hτ hr hf ad w
   ·exact h1.elim
  ·exact h1.elim
 case field T x f=>exact dF' (by simp [execOp,hop]) hF (hF.wv h)
 case indexAddr T x i =>
  have h1:=hF.wv (hF.wv h);refine dF' (m:=Instr.indexAt T (a.eval x) (a.eval i)) (by simp [execOp,hop]) hF ?_;split at h1
  ·rename_i ad len cap j m e sz bs hx hi hs
   unfold EvIx at h1;obtain ⟨ad',rfl,h0,hlt,hput⟩:=h1;unfold EvRunQ;refine ⟨_,fun w _=>?_,hput⟩;rw [hx,hi];exact jR' hτ hs h0 hlt w
  ·exact h1
 case index T x i=>exact dF' (by simp [execOp,hop]) hF (hF.wv (hF.wv h))
 case lookup T x i ok=>exact dF' (by simp [execOp,hop]) hF (hF.wv (hF.wv h))
 case extract x i =>
  have h1:=hF.wv h;split at h1
  ·rename_i vs hx
   split at h1
   ·rename_i u hu
    rw [dE'] at hu;have hu':vs[i]? = some u:=by simpa using hu
    exact dv' (v:=u) (fun w _=>by simp [execOp,hop,Instr.extract,hx,hu']) hF h1
   ·exact h1.elim
  ·exact h1.elim
 case call c =>
  cases hc:c.callee with
  | value f =>
   simp only [hc] at h;have h1:=hF.wvs _ _ (hF.wv h);split at h1
   ·rename_i g first captured hg
    unfold EvCallQ at h1;obtain ⟨v,hok,hcall,hput⟩:=h1;refine ⟨v,fun w hw=>?_,hF.put hput⟩;have hr:(execOp a.eval o).run P w = .ok (.enter g (first ++ (c.args.toList.map a.eval).toArray ++ captured)) w:=by
     simp only [execOp,hop,resolve,hc,hg,Deferred.ofValue,Sem.run_bind,Sem.run_pure,Result.andThen_ok,invoke];rw [fK' hok,eJ']
    unfold Oper.quietAt;rw [hr];exact ⟨rfl,hcall w hw⟩
   ·exact h1.elim
  | builtin b =>
   simp only [hc] at h;have h1:=hF.wvs _ _ h;have e1:(c.args.toList.map a.eval).toArray = c.args.map a.eval:=(eJ' a c.args).symm;simp only [e1] at h1;cases b <;> simp only at h1
   case len =>
    refine dF' (m:=Builtin.len_ c.argTypes o.type (c.args.map a.eval)) (by simp [execOp,hop,resolve,hc,invoke,builtin]) hF ?_;split at h1
    ·rename_i ad m cap T hvs hts
     split at h1
     ·rename_i q hs
      obtain ⟨e,sz,bs⟩:=q;obtain ⟨hu,_⟩:=hτ.slcs T e sz bs hs;unfold EvRunQ;refine ⟨_,fun w _=>?_,h1⟩;rw [<- e1,hvs];have hat:c.argTypes = #[T]:=Array.ext' (by simpa using hts);rw [hat];simp [Builtin.len_,run_underlying hu,goInt]
     ·exact h1
    ·exact h1
   case min=>exact dF' (by simp [execOp,hop,resolve,hc,invoke,builtin]) hF h1
   case max=>exact dF' (by simp [execOp,hop,resolve,hc,invoke,builtin]) hF h1
  | invoke r m=>simp only [hc] at h
 case nilCheck x =>
  have h1:=hF.wv h;split at h1
  ·rename_i ad hx
   exact dv' (fun w _=>by simp [execOp,hop,hx]) hF h1
  ·exact h1.elim
theorem eM' (hτ:ax' P τ) {l:List Oper} {k:St -> Prop} {Q:Act -> Prop} (hk:∀ s' a',Fr n a' s' -> k s' -> Q a') :
  ∀ (r:List Oper) (s:St) (a:Act),Fr n a s -> wpQ P τ n C l k r s -> wpQuiet P l.toArray C Q r a
 | [],s,a,hF,h=>hk _ _ hF h
 | o :: r,s,a,hF,h=>by
  have ih:=eM' hτ (l:=l) (Q:=Q) hk r;have hstep:∀ (s₀:St),Fr n a s₀ -> q1 P τ n C o s₀ (wpQ P τ n C l k r) -> o.quiet P a C (wpQuiet P l.toArray C Q r):=fun s₀ h₀ h₁=>by
   obtain ⟨v,hv,s',hF',hs⟩:=qB' hτ h₀ h₁;exact ⟨v,hv,ih s' _ hF' hs⟩
  have hskip:∀ (s₀:St),Fr n a s₀ -> (put n s₀ o.dst undef fun s'=>wpQ P τ n C l k r s') -> wpQuiet P l.toArray C Q r (a.put o.dst undef):=fun s₀ h₀ h₁=>by
   obtain ⟨s',hF',hs⟩:=h₀.put h₁;exact ih s' _ hF' hs
  rw [qz'] at h;unfold wpQuiet;cases hg:o.guard with
  | none =>
   rw [hg] at h;rw [if_pos (by simp [Region.wanted,hg])];exact hstep s hF h
  | some q =>
   obtain ⟨j,want⟩:=q;rw [hg] at h;simp only at h;cases hd:dstOf l j with
   | none=>rw [hd] at h; exact h.elim
   | some d =>
    rw [hd] at h;simp only at h;cases hv:get s.e d with
    | none=>rw [hv] at h; exact h.elim
    | some v =>
     rw [hv] at h;have hw:=jP' (a:=a) hg hd (hF.has d v hv);cases v <;> simp only at h
     case bool c =>
      cases want <;> simp only at h <;> rcases br_cases h with ⟨e,h2⟩ | ⟨e,h2⟩ <;> subst e
      ·rw [if_neg (by rw [hw]; simp)]
       exact hskip _ (hF.again hv) h2
      ·rw [if_pos (by rw [hw]; simp)]
       exact hstep _ (hF.again hv) h2
      ·rw [if_pos (by rw [hw]; simp)]
       exact hstep _ (hF.again hv) h2
      ·rw [if_neg (by rw [hw]; simp)]
       exact hskip _ (hF.again hv) h2
     case tuple vs =>
      rw [if_neg (by rw [hw]; simp)];exact hskip _ hF h
end
theorem nX' {P:Program} {τ:Tau} {n id:Nat} {l:List Oper} {s:St} {w:World} {K:Exit -> St -> World -> Prop} (hτ:ax' P τ) (C:World -> Prop) (hB:Region.lexB .any l.toArray = true)
  (hC:C { w with drawn:=w.drawn + 1 }) (h:wpQ P τ n C l (fun s'=>∀ w',C w' -> K .normal s' w') l s):EvCode P n (.region id l.toArray true) s w K:=by
 unfold EvCode;intro a hF;refine wp_region_quiet (C:=C) hτ.mixed hB hC ?_;have:=eM' hτ (n:=n) (l:=l) (C:=C) (Q:=fun a'=>∀ w',C w' -> lift n K .normal a' w') (k:=fun s'=>∀ w',C w' -> K .normal s' w') (fun s' a' hF' hs w' hw'=>⟨s',hF',hs w' hw'⟩) l s a hF h
 simpa using this
theorem vR' {P:Program} {τ:Tau} {n id:Nat} {l:List Oper} {s:St} {w:World} {K:Exit -> St -> World -> Prop} (hτ:ax' P τ) (hB:Region.lexB .any l.toArray = true)
  (h:wpQ P τ n (fun w'=>∃ m,w' = { w with drawn:=m }) l (fun s'=>∀ m,K .normal s' { w with drawn:=m }) l s):EvCode P n (.region id l.toArray true) s w K:=by
 refine nX' hτ (fun w'=>∃ m,w' = { w with drawn:=m }) hB ⟨_,rfl⟩ ?_;have hfun:(fun s'=>∀ w',(∃ m,w' = { w with drawn:=m }) -> K .normal s' w') = fun s'=>∀ m,K .normal s' { w with drawn:=m }:=by
  funext s'
  exact propext ⟨fun hh m=>hh _ ⟨m,rfl⟩,fun hh w' ⟨m,e⟩=>e ▸ hh m⟩
 rw [hfun];exact h
theorem ldR {w:World} {b o:Nat} {v:Value} {k:Value -> Prop} (h:Cl w.heap b o v) (hk:k v):EvLdQ (fun w'=>∃ m,w' = { w with drawn:=m }) ⟨b,o,none⟩ k:=by
 unfold EvLdQ;refine ⟨v,fun w' ⟨m,e⟩=>?_,hk⟩;subst e;exact Cl.cell (w:={ w with drawn:=m }) h
theorem ldK {w:World} {b o:Nat} {v:Value} {k:Value -> Prop} (h:Cl w.heap b o v) (hk:k v):EvLdQ (fun w'=>Kp [] w w') ⟨b,o,none⟩ k:=by
 unfold EvLdQ;exact ⟨v,fun w' e=>(h.kp e (by simp)).cell,hk⟩
theorem ldQ {C:World -> Prop} {b o:Nat} {v:Value} {k:Value -> Prop} (h:∀ w,C w -> Cl w.heap b o v) (hk:k v):EvLdQ C ⟨b,o,none⟩ k:=by
 unfold EvLdQ;exact ⟨v,fun w' e=>(h w' e).cell,hk⟩
theorem uE' {P:Program} {w:World} {f:FuncId} {args:Array Value} {k:Value -> Prop} {v:Value} (h:∀ w',Kp [] w w' -> di' P f /\ Calls P f args w' fun e w''=>e = .returned v /\ Kp [] w' w'') (hk:k v):EvCallQ P (fun w'=>Kp [] w w') f args k:=by
 unfold EvCallQ;exact ⟨v,(h w (Kp.refl _ _)).1,fun w' hw=>(h w' hw).2.mono fun e w'' ⟨he,hk'⟩=>⟨he,hw.tr hk'⟩,hk⟩
theorem mk {P:Program} {τ:Tau} (hτ:ax' P τ) {T e sz bs:Nat} (hs:look τ.slcs T = some (e,sz,bs)) {z:List Value} (hz:τ.zero e = some z) {w:World} {k:Value -> World -> Prop} {i:Int} (n:Nat) (hi:i = n) (hsz:0 < z.length) (hn:bs * n <= 281474976710656) (h63:n <= 9223372036854775807)
  (hk:∀ b w',b = w.heap.size -> Bk w'.heap b (rep z n) e -> w'.heap.size = b + 1 -> Kp [] w w' -> k (.slice (some ⟨b,0,none⟩) n n) w'):EvRun P (Instr.makeSlice T (.int .i64 i) (.int .i64 i)) w k:=by
 obtain ⟨hu,inf,hinf,hsize,hbytes⟩:=hτ.slcs T e sz bs hs;obtain ⟨inf',v,hinf',hv,hc,hsz'⟩:=du' hτ hz;have:inf' = inf:=by rw [hinf'] at hinf; simpa using hinf
 subst this;subst hi;have hb:(inf'.bytes:Int) * (n:Int) <= 281474976710656:=by
  rw [hbytes];have:((bs * n:Nat):Int) <= 281474976710656:=by omega
  rwa [Int.natCast_mul] at this
 have hr:=run_make (P:=P) w T e inf' v hu hinf' hv .i64 .i64 n n (by omega) (Int.le_refl _) hb (by omega);simp only [Int.toNat_natCast] at hr;refine run hr (hk _ _ rfl ?_ (by simp) (Kp.alloc _ _));show (w.heap.push _)[_]? = _;have hm:madeCells v.cells (n * inf'.size) = (rep z n).toArray:=by
  rw [hc,hsz'];exact gA' z n hsz
 rw [hm];simp
theorem nY' (x:Value):∀ n,rep [x] n = List.replicate n x
 | 0=>rfl
 | n + 1=>by simp [rep,nY' x n,List.replicate_succ]
def RowI (h:Array Obj) (b:Nat) (l:List Int) (T:TypeId):Prop:=Bk h b (l.map (Value.int .i64)) T
theorem RowI.cl {h:Array Obj} {b:Nat} {l:List Int} {T:TypeId} (hb:RowI h b l T) {k:Nat} (hk:k < l.length):Cl h b (0 + k * 1) (.int .i64 (l.getD k 0)) :=
 Bk.cl hb (by simp [hk])
theorem RowI.kp {X:List Nat} {w w':World} {b:Nat} {l:List Int} {T:TypeId} (hb:RowI w.heap b l T) (h:Kp X w w') (hx:b ∉ X):RowI w'.heap b l T:=Bk.kp hb h hx
theorem stI {w:World} {b k:Nat} {x:Int} {K:World -> Prop} {l:List Int} {T:TypeId} (hb:RowI w.heap b l T) (hk:k < l.length)
  (h:∀ w',RowI w'.heap b (l.set k x) T -> w'.heap.size = w.heap.size -> Kp [b] w w' -> K w'):EvSt w ⟨b,0 + k * 1,none⟩ (.int .i64 x) K:=by
 refine st hb (by simpa using hk) rfl fun w' hb' hs hkp=>h w' ?_ hs hkp;unfold RowI;have:(l.set k x).map (Value.int .i64) = (l.map (Value.int .i64)).set (0 + k * 1) (.int .i64 x):=by
  rw [Nat.zero_add,Nat.mul_one,List.map_set]
 rw [this];exact hb'
section
variable {P:Program} {τ:Tau} (hτ:ax' P τ) {T e sz bs:Nat} (hs:look τ.slcs T = some (e,sz,bs)) {w:World} {k:Value -> World -> Prop} {a:Option Addr} {len cap:Nat}
include hτ hs
theorem dw':P.underlying T = some (.slice (P.elem T)) /\ ∀ w,(sizeOf (P.elem T)).run P w = .ok sz w:=by
 obtain ⟨hu,i,hi,hsz,_⟩:=hτ.slcs T e sz bs hs;have he:P.elem T = e:=by simp [Program.elem,hu]
 rw [he];exact ⟨hu,fun w=>by simp [sizeOf,typeInfo,hi,hsz]⟩
theorem slcL {j:IntKind} {i:Int} (l:Nat) (hi:i = l) (hl:l <= len) (hk:k (sliced a l len cap sz) w):EvRun P (Instr.sliceAt T (.slice a len cap) (some (.int j i)) none none) w k:=by
 obtain ⟨hu,hz⟩:=dw' hτ hs;subst hi;refine run ?_ hk;rw [run_sliceAt_slice w T _ _ _ _ hu,run_slice_l w T a len cap hu j l (by omega) (by omega),hz];simp
theorem slcH {j:IntKind} {i:Int} (h:Nat) (hi:i = h) (hl:h <= cap) (hk:k (sliced a 0 h cap sz) w):EvRun P (Instr.sliceAt T (.slice a len cap) none (some (.int j i)) none) w k:=by
 obtain ⟨hu,hz⟩:=dw' hτ hs;subst hi;refine run ?_ hk;rw [run_sliceAt_slice w T _ _ _ _ hu,run_slice_h w T a len cap hu j h (by omega) (by omega),hz];simp
theorem vS' {j j':IntKind} {i i':Int} (l h:Nat) (hi:i = l) (hi':i' = h) (h1:l <= h) (h2:h <= cap) (hk:k (sliced a l h cap sz) w):EvRun P (Instr.sliceAt T (.slice a len cap) (some (.int j i)) (some (.int j' i')) none) w k:=by
 obtain ⟨hu,hz⟩:=dw' hτ hs;subst hi hi';refine run ?_ hk;rw [run_sliceAt_slice w T _ _ _ _ hu,run_slice_lh w T a len cap hu j j' l h (by omega) (by omega) (by omega),hz];simp
end
theorem i6 {r:Int} {k:Value -> Prop} (hk:k (.int .i64 r)) (h1:-9223372036854775808 <= r:=by first | omega | (simp only; omega)) (h2:r <= 9223372036854775807:=by first | omega | (simp only; omega)):EvInt .i64 r k:=sO' h1 h2 hk
theorem xU {X:List Nat} {w w':World} {Y:List Nat} (h:∀ b ∈ X,b < w.heap.size) (k:Kp Y w w'):∀ b ∈ X,b < w'.heap.size:=fun b hb=>Nat.lt_of_lt_of_le (h b hb) k.size
theorem bZ {w:World} {b T:Nat} {cs:List Value} (h:Bk w.heap b cs T):∀ j v,cs[j]? = some v -> Cl w.heap b (0 + j) v:=fun j v hj=>by rw [Nat.zero_add]; exact h.cl hj
theorem lb {w:World} {b o T:Nat} {cs:List Value} {v:Value} {k:Value -> Prop} (h:Bk w.heap b cs T) (hk:k v) (hj:cs[o]? = some v:=by rfl):EvLd w ⟨b,o,none⟩ k:=ld (Cl.cell (h.cl hj)) hk
theorem lk {w:World} {b o T:Nat} {cs:List Value} {v:Value} {k:Value -> Prop} (h:Bk w.heap b cs T) (hk:k v) (hj:cs[o]? = some v:=by rfl):EvLdQ (fun w'=>Kp [] w w') ⟨b,o,none⟩ k:=ldK (h.cl hj) hk
theorem oF {P : Program} {f : FuncId} {fn : Func} {args : Array Value} {w : World} {R : Ending -> World -> Prop} (hf : P.funcs[f]? = some fn) (h : Calls P f args w R) (h1 : fn.body.isNone = false := by rfl) (h2 : (fn.name == "runtime.NumGoroutine") = false := by decide) : di' P f /\ Calls P f args w R := ⟨⟨fn, hf, h1, h2⟩, h⟩
theorem cO {P:Program} {τ:Tau} {f:FuncId} {fn:Func} {c:Code} {args:List Value} {w:World} {R:Ending -> World -> Prop} (n:Nat) (rs:List ResultVar) (hτ:ax' P τ)
 (hf:P.funcs[f]? = some fn) (h:wpx P τ n c ⟨ini args 0,[]⟩ w (fnK P rs R)) (hb:fn.body = some c:=by rfl) (hn:fn.ntmps = n:=by rfl) (hrs:fn.results.toList = rs:=by rfl) (hle:args.length <= n:=by exact Nat.le_of_ble_eq_true rfl):Calls P f args.toArray w R:=qy' n rs hτ hf hb hn hrs hle h
def vT':Op -> Bool
 | .move .. | .assign .. | .load .. | .fieldAddr .. | .indexAddr .. | .binOp .. | .unOp .. | .convert .. | .extract .. | .build .. | .pick .. | .field .. | .slice .. => true
 | _=>false
def nZ' (n:Nat) (K:Exit -> St -> World -> Prop):Exit -> Act -> World -> Prop:=fun e a w=>e = .normal /\ lift n K .normal a w
@[irreducible] def EvAny (P:Program) (n:Nat) (S:World -> Prop) (l:List Oper) (K:Exit -> St -> World -> Prop) (fuel:Nat) (listed:Array Bool) (s:St) (w:World):Prop :=
 ∀ a,Fr n a s -> wpAnyH P .any l.toArray (nZ' n K) S fuel listed a w
section
variable {P:Program} {τ:Tau} {n:Nat} {S:World -> Prop} {l:List Oper} {K:Exit -> St -> World -> Prop} {fuel:Nat} {listed:Array Bool} {s:St} {w:World}
theorem jS' {ops:Array Oper} {Q:Exit -> Act -> World -> Prop} {i:Nat} {o:Oper} {k:Act -> World -> Prop} {a:Act} (hi:ops[i]? = some o) (hnp:∀ c a w,¬ Q (.panic c) a w) (hno:¬ LetsOut Q)
  (h:wpList P ops (fun e a' w'=>e = .normal /\ k a' w') [o] a w):wpOp P ops Q i k a w:=by
 unfold wpOp;simp only [hi];unfold wpList at h;split at h
 ·rename_i hw
  rw [if_pos hw];rcases h with h | ⟨_,a',w',h,_⟩
  ·left
   unfold Oper.wp at *
   generalize (execOp a.eval o).run P w = r at *
   cases r with
   | ok x w' =>
    cases x <;> simp only [Oper.upon,wpList] at h ⊢
    case value v=>exact h.2
    case skip=>exact h.2
    case defer d=>exact h.2
    case enter f args =>
     refine Calls.mono h fun e w'' he=>?_;cases e with
     | returned u=>exact he.2
     | panicked c=>cases he.1
     | outgrown=>obtain ⟨_,_,he,_⟩:=he; cases he
    case row row args=>exact Rows.mono h fun u w'' he=>he.2
   | halt x w' =>
    cases x <;> simp only [Oper.upon] at h ⊢
    case panic v=>cases h.1
  ·cases h
 ·rename_i hw
  rw [if_neg hw];exact h.2
theorem sP' (c:List PanicEntry) (a:Act) (w:World):¬ nZ' n K (.panic c) a w:=fun h=>by cases h.1
theorem sQ':¬ LetsOut (nZ' n K):=fun ⟨_,_,h⟩=>by cases h.1
end
theorem dP' {w:World} {b o n:Nat} {k:Value -> Prop} (cs:List Value) (hn:cs.length = n) (h:∀ j v,cs[j]? = some v -> Cl w.heap b (o + j) v) (hk:k (.agg cs.toArray)):EvLdNQ (fun w'=>Kp [] w w') ⟨b,o,none⟩ n k:=by
 unfold EvLdNQ;refine ⟨cs,hn,fun w' hw j v hj=>?_,hk⟩;have:=((h j v hj).kp hw (by simp)).cell;unfold Addr.add;split
 ·rename_i h0
  subst h0
  simpa using this
 ·exact this
theorem gm' {w w':World} {row:Option Nat} (h:w.grownBy w' row):Kp row.toList w w' :=
 ⟨h.os,h.tape,h.output,h.size,fun b hb hx=>h.block b hb (fun e=>hx (by simp [<- e]))⟩
theorem jT' {w:World} {b base e sz n:Nat} {cs:List Value} (h:Bk w.heap b cs e) (hb:base <= b) (hc:cs.length = n * sz) (hm:n <= maxLen):w.ownsRow base e sz (.slice (some ⟨b,0,none⟩) n n) n cs :=
 ⟨hc,.inr ⟨b,n,cs.toArray,rfl,hb,h,Nat.le_refl _,hm,by simpa using hc,by rw [<- hc]; simp⟩⟩
theorem oa' {w w':World} {base e sz n:Nat} {v:Value} {xs:List Value} {X:List Nat} (h:w.ownsRow base e sz v n xs) (hk:Kp X w w') (hx:∀ g,v.ownBlock = some g -> g ∉ X):w'.ownsRow base e sz v n xs:=by
 obtain ⟨h1,h2⟩:=h;refine ⟨h1,?_⟩;rcases h2 with h2 | ⟨g,cap,cur,rfl,hb,hg,rest⟩
 ·exact .inl h2
 ·refine .inr ⟨g,cap,cur,rfl,hb,?_,rest⟩
  rw [hk.block g (Array.getElem?_eq_some_iff.1 hg).1 (hx g rfl)];exact hg
theorem gB' {P:Program} {w:World} {base size:Nat} (t ty e:TypeId) (i:TypeInfo) (ht:P.underlying t = some (.slice e)) (hi:P.info? e = some i)
  (v:Value) (n:Nat) (xs:List Value) (hown:w.ownsRow base e size v n xs) (c:Nat):(Builtin.append_ #[t,t] ty #[v,.slice none 0 c]).run P w = .ok v w:=by
 rcases hown.2 with ⟨rfl,rfl⟩ | ⟨g,cap,cur,rfl,_,_,hnc,_⟩
 ·simp [Builtin.append_,run_underlying ht,sizeOf,typeInfo,hi,Builtin.lenOf,Builtin.firstCells]
 ·simp [Builtin.append_,run_underlying ht,sizeOf,typeInfo,hi,Builtin.lenOf,Builtin.firstCells,hnc,storeCells]
theorem ap {P:Program} {τ:Tau} (hτ:ax' P τ) {T e sz bs:Nat} (hs:look τ.slcs T = some (e,sz,bs)) {z:List Value} (hz:τ.zero e = some z) (hsz:0 < sz) {w:World} {k:Value -> World -> Prop} {v:Value} {n m c ty:Nat} {xs:List Value} {a:Option Addr}
  (base:Nat) (hown:w.ownsRow base e sz v n xs) (news:List Value) (hl:news.length = m * sz) (hnews:m = 0 \/ ∃ b o,a = some ⟨b,o,none⟩ /\ ∀ j u,news[j]? = some u -> Cl w.heap b (o + j) u)
  (h1:∀ u ∈ news,u.oneCell' = true) (hbytes:(n + m) * bs <= 140737488355328) (h63:n + m <= maxLen) (hbase:base <= w.heap.size)
  (hk:∀ v' w',w'.ownsRow base e sz v' (n + m) (xs ++ news) -> Kp v.ownBlock.toList w w' -> k v' w'):EvRun P (Builtin.append_ #[T,T] ty #[v,.slice a m c]) w k:=by
 obtain ⟨hu,inf,hinf,hsize,hbs⟩:=hτ.slcs T e sz bs hs;obtain ⟨inf',v0,hinf',hv,hc,hsz'⟩:=du' hτ hz;have:inf' = inf:=by rw [hinf'] at hinf; simpa using hinf
 subst this;have hzs:v0.cells.size = sz:=by rw [hc,<- hsize,hsz']; simp
 have go:∀ ad,a = some ad -> (∀ j u,news[j]? = some u -> w.cell? (ad.add j) = some u) -> EvRun P (Builtin.append_ #[T,T] ty #[v,.slice a m c]) w k:=fun ad ha hn=>by
  subst ha;obtain ⟨v',w',hr,ho,hg,_⟩:=run_append_own (P:=P) w base T ty e inf' v0 sz bs hu hinf hv hsize hbs hzs hsz v n xs hown ad m c news hl hn h1 h63 hbytes hbase;exact run hr (hk v' w' ho (gm' hg))
 rcases hnews with rfl | ⟨b,o,rfl,hn⟩
 ·have hn0:news = []:=List.eq_nil_of_length_eq_zero (by simpa using hl)
  subst hn0;cases a with
  | some ad=>exact go ad rfl (by simp)
  | none =>
   refine run (gB' T ty e inf' hu hinf v n xs hown c) (hk v w (by simpa using hown) (Kp.refl _ _))
 ·refine go _ rfl fun j u hj=>?_
  rw [show (⟨b,o,none⟩:Addr).add j = ⟨b,o + j,none⟩ by unfold Addr.add; split <;> simp_all];exact (hn j u hj).cell
def I64 (n:Int):Prop:=-9223372036854775808 <= n /\ n <= 9223372036854775807
abbrev Mem:=Nat -> Nat -> Value -> Prop
def Sub (C:Mem) (w:World):Prop:=∀ b o v,C b o v -> Cl w.heap b o v
theorem Sub.tr {C:Mem} {w w':World} (h:Sub C w) (k:Kp [] w w'):Sub C w':=fun b o v hc=>(h b o v hc).kp k (by simp)
theorem Sub.kp {C:Mem} {X:List Nat} {w w':World} (h:Sub C w) (k:Kp X w w') (hx:∀ b o v,C b o v -> b ∉ X):Sub C w':=fun b o v hc=>(h b o v hc).kp k (hx b o v hc)
theorem Sub.dr {C:Mem} {w:World} (h:Sub C w) (m:Nat):Sub C { w with drawn:=m }:=h
def Old (w:World):Mem:=fun b o v=>Cl w.heap b o v
theorem Old.sub (w:World):Sub (Old w) w:=fun _ _ _ h=>h
def Cu (h:Array Obj) (b o:Nat) (v:Value):Prop:=∃ c T,h[b]? = some (.cells c T (0,0)) /\ c[o]? = some v
theorem Cu.cl {h:Array Obj} {b o:Nat} {v:Value} (hc:Cu h b o v):Cl h b o v:=by
 obtain ⟨c,T,h1,h2⟩:=hc;exact ⟨c,T,_,h1,h2⟩
theorem Cu.lt {h:Array Obj} {b o:Nat} {v:Value} (hc:Cu h b o v):b < h.size:=hc.cl.lt
theorem Cu.kp {X:List Nat} {w w':World} {b o:Nat} {v:Value} (hc:Cu w.heap b o v) (k:Kp X w w') (hx:b ∉ X):Cu w'.heap b o v:=by
 have hl:=hc.lt;obtain ⟨c,T,h1,h2⟩:=hc;exact ⟨c,T,by rw [k.block b hl hx]; exact h1,h2⟩
theorem Bk.cu {h:Array Obj} {b:Nat} {cs:List Value} {T:TypeId} (hb:Bk h b cs T) {o:Nat} {v:Value} (hv:cs[o]? = some v):Cu h b o v:=⟨_,_,hb,by simpa using hv⟩
def New (n:Nat) (w:World):Mem:=fun b o v=>n <= b /\ Cu w.heap b o v
theorem New.sub (n:Nat) (w:World):Sub (New n w) w:=fun _ _ _ h=>h.2.cl
theorem New.up {n m:Nat} {w w':World} (hn:m <= n) (k:Kp [] w w'):∀ b o v,New n w b o v -> New m w' b o v:=fun b o v h=>⟨Nat.le_trans hn h.1,h.2.kp k (by simp)⟩
structure Rd (α:Type) where
 sz:Nat
 den:Mem -> List Value -> α -> Prop
 len:∀ {C cs x},den C cs x -> cs.length = sz
 mono:∀ {C C':Mem} {cs x},(∀ b o v,C b o v -> C' b o v) -> den C cs x -> den C' cs x
 one:∀ {C cs x},den C cs x -> ∀ u ∈ cs,u.oneCell' = true
section
variable {α:Type}
def Rd.At (R:Rd α) (C:Mem) (b o:Nat) (x:α):Prop:=∃ cs,R.den C cs x /\ ∀ j v,cs[j]? = some v -> C b (o + j) v
theorem Rd.At.mono {R:Rd α} {C C':Mem} {b o:Nat} {x:α} (h:R.At C b o x) (hc:∀ b o v,C b o v -> C' b o v):R.At C' b o x:=by
 obtain ⟨cs,h1,h2⟩:=h;exact ⟨cs,R.mono hc h1,fun j v hj=>hc _ _ _ (h2 j v hj)⟩
def Sl (R:Rd α) (C:Mem) (a:Option Addr) (l:List α):Prop :=
 l.length <= 1099511627776 /\ (l.length = 0 \/ ∃ b o,a = some ⟨b,o,none⟩ /\ ∀ i x,l[i]? = some x -> R.At C b (o + i * R.sz) x)
theorem Sl.mono {R:Rd α} {C C':Mem} {a:Option Addr} {l:List α} (h:Sl R C a l) (hc:∀ b o v,C b o v -> C' b o v):Sl R C' a l:=by
 refine ⟨h.1,?_⟩;rcases h.2 with h0 | ⟨b,o,h1,h2⟩
 ·exact .inl h0
 ·exact .inr ⟨b,o,h1,fun i x hx=>(h2 i x hx).mono hc⟩
theorem Sl.nil (R:Rd α) (C:Mem) (a:Option Addr):Sl R C a []:=⟨by simp,.inl rfl⟩
theorem Sl.at {R:Rd α} {C:Mem} {a:Option Addr} {l:List α} (h:Sl R C a l) {i:Nat} (hi:i < l.length):∃ b o,a = some ⟨b,o,none⟩ /\ ∀ i x,l[i]? = some x -> R.At C b (o + i * R.sz) x:=by
 rcases h.2 with h0 | h1
 ·omega
 ·exact h1
def rSl (R:Rd α):Rd (List α) where
 sz:=1
 den C cs l:=∃ a cap,cs = [.slice a l.length cap] /\ Sl R C a l
 len:=by rintro C cs x ⟨a,cap,rfl,_⟩; rfl
 mono:=by rintro C C' cs x hc ⟨a,cap,rfl,h⟩; exact ⟨a,cap,rfl,h.mono hc⟩
 one:=by rintro C cs x ⟨a,cap,rfl,h⟩ u hu; simp at hu; subst hu; rfl
end
def rInt:Rd Int where
 sz:=1
 den _ cs x:=cs = [.int .i64 x] /\ I64 x
 len:=by rintro _ cs x ⟨rfl,_⟩; rfl
 mono:=by rintro _ _ cs x _ h; exact h
 one:=by rintro _ cs x ⟨rfl,_⟩ u hu; simp at hu; subst hu; rfl
def rBool:Rd Bool where
 sz:=1
 den _ cs x:=cs = [.bool x]
 len:=by rintro _ cs x rfl; rfl
 mono:=by rintro _ _ cs x _ h; exact h
 one:=by rintro _ cs x rfl u hu; simp at hu; subst hu; rfl
def rU8:Rd Nat where
 sz:=1
 den _ cs x:=cs = [.int .u8 (x:Int)] /\ x < 256
 len:=by rintro _ cs x ⟨rfl,_⟩; rfl
 mono:=by rintro _ _ cs x _ h; exact h
 one:=by rintro _ cs x ⟨rfl,_⟩ u hu; simp at hu; subst hu; rfl
theorem Sl.int {C:Mem} {a:Option Addr} {l:List Int} (h:Sl rInt C a l) {i:Nat} {x:Int} (hi:l[i]? = some x):∃ b o,a = some ⟨b,o,none⟩ /\ C b (o + i * 1) (.int .i64 x) /\ I64 x:=by
 obtain ⟨b,o,ha,hc⟩:=h.at (List.getElem?_eq_some_iff.1 hi).1;obtain ⟨cs,⟨rfl,h64⟩,h2⟩:=hc i x hi;exact ⟨b,o,ha,h2 0 _ rfl,h64⟩
theorem Sl.sl {α:Type} {R:Rd α} {C:Mem} {a:Option Addr} {l:List (List α)} (h:Sl (rSl R) C a l) {i:Nat} {x:List α} (hi:l[i]? = some x) :
  ∃ b o,a = some ⟨b,o,none⟩ /\ ∃ a' cap,C b (o + i * 1) (.slice a' x.length cap) /\ Sl R C a' x:=by
 obtain ⟨b,o,ha,hc⟩:=h.at (List.getElem?_eq_some_iff.1 hi).1;obtain ⟨cs,⟨a',cap,rfl,hs⟩,h2⟩:=hc i x hi;exact ⟨b,o,ha,a',cap,h2 0 _ rfl,hs⟩
theorem ldC {C:Mem} {w:World} (hs:Sub C w) {b o:Nat} {v:Value} {k:Value -> Prop} (h:C b o v) (hk:k v):EvLd w ⟨b,o,none⟩ k:=ld (hs b o v h).cell hk
def All2 {α β:Type} (p:β -> α -> Prop):List β -> List α -> Prop
 | [],[]=>True
 | b :: bs,a :: as=>p b a /\ All2 p bs as
 | _,_=>False
section
variable {α β:Type} {p q:β -> α -> Prop}
theorem All2.length:∀ {l:List β} {m:List α},All2 p l m -> l.length = m.length
 | [],[],_=>rfl
 | _ :: _,_ :: _,h=>by simp [All2.length h.2]
 | [],_ :: _,h=>h.elim
 | _ :: _,[],h=>h.elim
theorem All2.mono (hpq:∀ b a,p b a -> q b a):∀ {l:List β} {m:List α},All2 p l m -> All2 q l m
 | [],[],_=>trivial
 | _ :: _,_ :: _,h=>⟨hpq _ _ h.1,All2.mono hpq h.2⟩
 | [],_ :: _,h=>h.elim
 | _ :: _,[],h=>h.elim
theorem All2.append:∀ {l:List β} {m:List α} {l':List β} {m':List α},All2 p l m -> All2 p l' m' -> All2 p (l ++ l') (m ++ m')
 | [],[],_,_,_,h'=>h'
 | _ :: _,_ :: _,_,_,h,h'=>⟨h.1,All2.append h.2 h'⟩
 | [],_ :: _,_,_,h,_=>h.elim
 | _ :: _,[],_,_,h,_=>h.elim
theorem All2.get:∀ {l:List β} {m:List α} {i:Nat} {a:α},All2 p l m -> m[i]? = some a -> ∃ b,l[i]? = some b /\ p b a
 | [],[],i,a,_,h=>by simp at h
 | b :: _,_ :: _,0,a,h,hi=>by simp at hi; subst hi; exact ⟨b,rfl,h.1⟩
 | _ :: _,_ :: _,i + 1,a,h,hi=>by simpa using All2.get h.2 (by simpa using hi)
 | [],_ :: _,_,_,h,_=>h.elim
 | _ :: _,[],_,_,h,_=>h.elim
end
theorem iP' {α:Type} {k:Nat}:∀ (css:List (List α)),(∀ cs ∈ css,cs.length = k) -> css.flatten.length = css.length * k
 | [],_=>by simp
 | cs :: r,h=>by
  have:=iP' r fun c hc=>h c (by simp [hc]);simp only [List.flatten_cons,List.length_append,List.length_cons,this,h cs (by simp),Nat.add_mul];omega
theorem eN' {α:Type} {k:Nat}:∀ (css:List (List α)),(∀ cs ∈ css,cs.length = k) -> ∀ (i j:Nat) (cs:List α) (v:α),css[i]? = some cs -> cs[j]? = some v -> css.flatten[i * k + j]? = some v
 | [],_,i,j,cs,v,h1,_=>by simp at h1
 | c :: r,h,0,j,cs,v,h1,h2=>by
  simp at h1;subst h1;have hj:=(List.getElem?_eq_some_iff.1 h2).1;rw [List.flatten_cons,Nat.zero_mul,Nat.zero_add,List.getElem?_append_left hj];exact h2
 | c :: r,h,i + 1,j,cs,v,h1,h2=>by
  have hc:=h c (by simp);have:=eN' r (fun c hc=>h c (by simp [hc])) i j cs v (by simpa using h1) h2;rw [List.flatten_cons,List.getElem?_append_right (by rw [hc,Nat.add_mul]; omega)];rw [show (i + 1) * k + j - c.length = i * k + j by rw [hc,Nat.add_mul]; omega];exact this
def Dn (lo:Nat) (v:Value) (w:World):Mem:=fun b o u=>lo <= b /\ some b ≠ v.ownBlock /\ Cu w.heap b o u
structure Own {α:Type} (R:Rd α) (e lo:Nat) (w:World) (v:Value) (l:List α):Prop where
 row:∃ css:List (List Value),w.ownsRow lo e R.sz v l.length css.flatten /\ All2 (R.den (Dn lo v w)) css l
 low:lo <= w.heap.size
section
variable {α:Type} {R:Rd α} {e lo:Nat} {w w':World} {v:Value} {l:List α}
theorem Own.nil (R:Rd α) (e:Nat) {lo:Nat} {w:World} (h:lo <= w.heap.size):Own R e lo w (.slice none 0 0) []:=⟨⟨[],⟨by simp,.inl ⟨rfl,rfl⟩⟩,trivial⟩,h⟩
theorem Own.empty (R:Rd α) {e lo:Nat} {w:World} {b:Nat} (hb:Bk w.heap b [] e) (h:lo <= b):Own R e lo w (.slice (some ⟨b,0,none⟩) 0 0) [] :=
 ⟨⟨[],jT' (n:=0) hb h (by simp) (by simp [maxLen]),trivial⟩,Nat.le_trans h (Nat.le_of_lt hb.lt)⟩
theorem Own.block (h:Own R e lo w v l):∀ g,v.ownBlock = some g -> lo <= g /\ g < w.heap.size:=by
 intro g hg;obtain ⟨css,h1,_⟩:=h.row;rcases h1.2 with ⟨rfl,_⟩ | ⟨g',cap,cur,rfl,hb,hc,_⟩
 ·cases hg
 ·simp [Value.ownBlock] at hg
  subst hg;exact ⟨hb,(Array.getElem?_eq_some_iff.1 hc).1⟩
theorem Own.kp (h:Own R e lo w v l) (k:Kp [] w w'):Own R e lo w' v l:=by
 obtain ⟨⟨css,h1,h2⟩,h3⟩:=h;exact ⟨⟨css,oa' h1 k (by simp),h2.mono fun cs x hx=>R.mono (fun b o u hu=>⟨hu.1,hu.2.1,hu.2.2.kp k (by simp)⟩) hx⟩,Nat.le_trans h3 k.size⟩
theorem Own.low' (h:Own R e lo w v l) {lo':Nat} (hl:lo' <= lo):Own R e lo' w v l:=by
 obtain ⟨⟨css,h1,h2⟩,h3⟩:=h;refine ⟨⟨css,⟨h1.1,?_⟩,h2.mono fun cs x hx=>R.mono (fun b o u hu=>⟨Nat.le_trans hl hu.1,hu.2.1,hu.2.2⟩) hx⟩,Nat.le_trans hl h3⟩;rcases h1.2 with h | ⟨g,cap,cur,hv,hb,rest⟩
 ·exact .inl h
 ·exact .inr ⟨g,cap,cur,hv,Nat.le_trans hl hb,rest⟩
theorem Kp.own {w0:World} (k0:Kp [] w0 w) (k:Kp v.ownBlock.toList w w') (h:Own R e w0.heap.size w v l):Kp [] w0 w' :=
 k0.trans k fun x hx hl=>by
  have hx:v.ownBlock = some x:=by simpa using hx
  have:=(h.block x hx).1;omega
theorem Own.len (h:Own R e lo w v l):∃ a cap,v = .slice a l.length cap:=by
 obtain ⟨css,h1,_⟩:=h.row;rcases h1.2 with ⟨rfl,h0⟩ | ⟨g',cap,cur,rfl,_⟩
 ·exact ⟨none,0,by rw [h0]⟩
 ·exact ⟨_,cap,rfl⟩
theorem Own.den (h:Own R e lo w v l) (hl:l.length <= 1099511627776):∃ a cap,v = .slice a l.length cap /\ Sl R (New lo w) a l:=by
 obtain ⟨⟨css,h1,h2⟩,h3⟩:=h;have hlen:=h2.length;have hk:∀ cs ∈ css,cs.length = R.sz:=by
  intro cs hcs;obtain ⟨i,hi⟩:=List.getElem?_of_mem hcs;have hil:=(List.getElem?_eq_some_iff.1 hi).1;obtain ⟨cs',h4,h5⟩:=h2.get (i:=i) (a:=l[i]'(by omega)) (by simp);rw [hi] at h4;obtain rfl:=Option.some.inj h4;exact R.len h5
 rcases h1.2 with ⟨rfl,h0⟩ | ⟨g,cap,cur,rfl,hb,hg,hn,hm,hc,ht⟩
 ·have:l = []:=List.length_eq_zero_iff.1 h0
  subst this;exact ⟨none,0,rfl,Sl.nil _ _ _⟩
 ·refine ⟨_,cap,rfl,hl,.inr ⟨g,0,rfl,fun i x hx=>?_⟩⟩
  obtain ⟨cs,h4,h5⟩:=h2.get hx;refine ⟨cs,R.mono (fun b o u hu=>⟨hu.1,hu.2.2⟩) h5,fun j u hu=>⟨hb,cur,e,hg,?_⟩⟩;have:=eN' css hk i j cs u h4 hu;rw [<- ht,List.getElem?_take] at this;split at this
  ·rw [Nat.zero_add]; simpa using this
  ·cases this
theorem Own.ap {P:Program} {τ:Tau} (hτ:ax' P τ) {T bs:Nat} (hs:look τ.slcs T = some (e,R.sz,bs)) {z:List Value} (hz:τ.zero e = some z) (hsz:0 < R.sz) {k:Value -> World -> Prop} {m c ty:Nat} {a:Option Addr}
  (h:Own R e lo w v l) (xs:List α) (css:List (List Value)) (hm:xs.length = m) (hx:All2 (R.den (Dn lo v w)) css xs) (hc:m = 0 \/ ∃ b o,a = some ⟨b,o,none⟩ /\ ∀ i x j u,css[i]? = some x -> x[j]? = some u -> Cl w.heap b (o + i * R.sz + j) u)
  (hbytes:(l.length + m) * bs <= 140737488355328) (h63:l.length + m <= maxLen)
  (hk:∀ v' w',Own R e lo w' v' (l ++ xs) -> Kp v.ownBlock.toList w w' -> (v'.ownBlock = v.ownBlock \/ v'.ownBlock = some w.heap.size) -> k v' w'):EvRun P (Builtin.append_ #[T,T] ty #[v,.slice a m c]) w k:=by
 have hown:=h;obtain ⟨⟨css0,h1,h2⟩,hbase⟩:=h;obtain ⟨hu,inf,hinf,hsize,hbs⟩:=hτ.slcs T e R.sz bs hs;obtain ⟨inf',v0,hinf',hv,hcz,hsz'⟩:=du' hτ hz;have:inf' = inf:=by rw [hinf'] at hinf; simpa using hinf
 subst this;have hzs:v0.cells.size = R.sz:=by rw [hcz,<- hsize,hsz']; simp
 have hxl:=hx.length;have hk1:∀ cs ∈ css,cs.length = R.sz:=by
  intro cs hcs;obtain ⟨i,hi⟩:=List.getElem?_of_mem hcs;have hil:=(List.getElem?_eq_some_iff.1 hi).1;obtain ⟨cs',h4,h5⟩:=hx.get (i:=i) (a:=xs[i]'(by omega)) (by simp);rw [hi] at h4;obtain rfl:=Option.some.inj h4;exact R.len h5
 have hone:∀ u ∈ css.flatten,u.oneCell' = true:=by
  intro u hu;obtain ⟨cs,hcs,hu⟩:=List.mem_flatten.1 hu;obtain ⟨i,hi⟩:=List.getElem?_of_mem hcs;have hil:=(List.getElem?_eq_some_iff.1 hi).1;obtain ⟨cs',h4,h5⟩:=hx.get (i:=i) (a:=xs[i]'(by omega)) (by simp);rw [hi] at h4;obtain rfl:=Option.some.inj h4;exact R.one h5 u hu
 have hfl:css.flatten.length = m * R.sz:=by rw [iP' css hk1,hxl,hm]
 have go:∀ ad,a = some ad -> (∀ j u,css.flatten[j]? = some u -> w.cell? (ad.add j) = some u) -> EvRun P (Builtin.append_ #[T,T] ty #[v,.slice a m c]) w k:=fun ad ha hn=>by
  subst ha;obtain ⟨v',w',hr,ho,hg,_,hblk⟩:=run_append_own_at (P:=P) w lo T ty e inf' v0 R.sz bs hu hinf hv hsize hbs hzs hsz v l.length css0.flatten h1 ad m c css.flatten hfl hn hone h63 hbytes hbase;have hkp:=gm' hg;refine run hr (hk v' w' ⟨⟨css0 ++ css,?_,?_⟩,Nat.le_trans hbase hkp.size⟩ hkp hblk)
  ·rw [List.flatten_append,List.length_append,hm]
   exact ho
  ·have step:∀ b o u,Dn lo v w b o u -> Dn lo v' w' b o u:=fun b o u hu=>by
    refine ⟨hu.1,?_,hu.2.2.kp hkp (by simpa using fun e=>hu.2.1 e.symm)⟩;rcases hblk with e1 | e1
    ·rw [e1]; exact hu.2.1
    ·rw [e1]
     have:=hu.2.2.lt;intro e2;have:=Option.some.inj e2;omega
   exact (h2.mono fun cs x hx=>R.mono step hx).append (hx.mono fun cs x hx=>R.mono step hx)
 rcases hc with h0 | ⟨b,o,rfl,hn⟩
 ·subst h0
  have hn0:css.flatten = []:=List.eq_nil_of_length_eq_zero (by simpa using hfl);cases a with
  | some ad=>exact go ad rfl (by simp [hn0])
  | none =>
   have hx0:xs = []:=List.length_eq_zero_iff.1 hm;refine run (gB' T ty e inf' hu hinf v l.length css0.flatten h1 c) (hk v w ?_ ((Kp.refl [] w).weak (by simp)) (.inl rfl));subst hx0
   simpa using hown
 ·refine go _ rfl fun j u hj=>?_
  have hjl:j < m * R.sz:=by rw [<- hfl]; exact (List.getElem?_eq_some_iff.1 hj).1
  have hi:j / R.sz < css.length:=by rw [hxl,hm]; exact (Nat.div_lt_iff_lt_mul hsz).2 hjl
  have hr:j % R.sz < R.sz:=Nat.mod_lt _ hsz;have hlen:=hk1 css[j / R.sz] (by simp);have h5:=eN' css hk1 (j / R.sz) (j % R.sz) css[j / R.sz] (css[j / R.sz][j % R.sz]'(by omega)) (by simp) (by simp);have hdm:=Nat.div_add_mod' j R.sz;rw [hdm,hj] at h5;have h6:=hn (j / R.sz) css[j / R.sz] (j % R.sz) u (by simp) (by rw [h5]; simp);rw [show (⟨b,o,none⟩:Addr).add j = ⟨b,o + j,none⟩ by unfold Addr.add; split <;> simp_all];rw [Nat.add_assoc,hdm] at h6;exact h6.cell
theorem Own.ap1 {P:Program} {τ:Tau} (hτ:ax' P τ) {T bs:Nat} (hs:look τ.slcs T = some (e,R.sz,bs)) {z:List Value} (hz:τ.zero e = some z) (hsz:0 < R.sz) {k:Value -> World -> Prop} {c ty b o:Nat}
  (h:Own R e lo w v l) (x:α) (cs:List Value) (hx:R.den (Dn lo v w) cs x) (hc:∀ j u,cs[j]? = some u -> Cl w.heap b (o + j) u)
  (hbytes:(l.length + 1) * bs <= 140737488355328) (h63:l.length + 1 <= maxLen)
  (hk:∀ v' w',Own R e lo w' v' (l ++ [x]) -> Kp v.ownBlock.toList w w' -> (v'.ownBlock = v.ownBlock \/ v'.ownBlock = some w.heap.size) -> k v' w'):EvRun P (Builtin.append_ #[T,T] ty #[v,.slice (some ⟨b,o,none⟩) 1 c]) w k :=
 h.ap hτ hs hz hsz [x] [cs] rfl ⟨hx,trivial⟩ (.inr ⟨b,o,rfl,fun i y j u hi hj=>by
  match i with
  | 0 =>
   simp at hi;subst hi;rw [Nat.zero_mul,Nat.add_zero];exact hc j u hj
  | i + 1=>simp at hi⟩) hbytes h63 hk
end
theorem af' {α:Type} {l:List α} {k:Nat} (h:k < l.length):∃ x,l[k]? = some x /\ l.drop k = x :: l.drop (k + 1) :=
 ⟨l[k],by simp,List.drop_eq_getElem_cons h⟩
theorem al' {α:Type} {l:List α} {k:Nat} {x:α} (h:l[k]? = some x):l.take (k + 1) = l.take k ++ [x]:=by
 rw [List.take_add_one,h]
 rfl
theorem ai' {α:Type} {l:List α} {k:Nat} {x:α} (h:l[k]? = some x):k < l.length:=(List.getElem?_eq_some_iff.1 h).1
def marks:Array Bool -> List Nat -> Array Bool
 | a,[]=>a
 | a,i :: r=>marks (a.setIfInBounds i true) r
def cF' (l:Array Oper):Array Bool -> List Nat -> Bool
 | _,[]=>true
 | listed,i :: r=>Region.free .any l listed i && ((Region.ready .any l listed).contains i && cF' l (listed.setIfInBounds i true) r)
def picks (l:Array Oper):List Nat -> List Oper -> Prop
 | [],[]=>True
 | i :: r,o :: os=>l[i]? = some o /\ plainOp' o.op = true /\ picks l r os
 | _,_=>False
where
 plainOp':Op -> Bool
 | .move .. | .assign .. | .load .. | .fieldAddr .. | .indexAddr .. | .binOp .. | .unOp .. | .convert .. | .extract .. | .build .. | .pick .. | .field .. | .slice .. | .nilCheck .. => true
 | .call c=>match c.callee with
  | .builtin .len=>true
  | .builtin .min=>true
  | .builtin .max=>true
  | _=>false
 | _=>false
theorem fL' {P:Program} {a:Act} {o:Oper} (hp:picks.plainOp' o.op = true) {w w':World} {r:Next} (h:(execOp a.eval o).run P w = .ok r w'):∃ v,r = .value v:=by
 have fin:∀ m:Sem Value,execOp a.eval o = (do pure (.value (<- m))) -> ∃ v,r = .value v:=fun m he=>by
  rw [he] at h;simp only [Sem.run_bind,Sem.run_pure] at h;unfold Result.andThen at h;split at h
  ·injection h with h1 h2; exact ⟨_,h1.symm⟩
  ·cases h
 cases hop:o.op <;> rw [hop] at hp <;> simp only [picks.plainOp',Bool.false_eq_true] at hp
 case call c =>
  cases hc:c.callee with
  | builtin b =>
   rw [hc] at hp;cases b <;> simp only [Bool.false_eq_true] at hp
   case len=>exact fin (Builtin.len_ c.argTypes o.type (c.args.map a.eval)) (by simp [execOp,hop,resolve,hc,invoke,builtin])
   case min=>exact fin (Builtin.min_ c.argTypes o.type (c.args.map a.eval)) (by simp [execOp,hop,resolve,hc,invoke,builtin])
   case max=>exact fin (Builtin.max_ c.argTypes o.type (c.args.map a.eval)) (by simp [execOp,hop,resolve,hc,invoke,builtin])
  | value f=>rw [hc] at hp; cases hp
  | invoke r m=>rw [hc] at hp; cases hp
 case nilCheck x =>
  simp only [execOp,hop] at h;split at h
  all_goals first
   | (simp only [Sem.run_pure] at h; injection h with h1 h2; exact ⟨_,h1.symm⟩)
   | skip
  all_goals first
   | (simp [runtimePanic,goPanic] at h; done)
   | skip
  split at h
  ·simp [runtimePanic,goPanic] at h
  ·simp only [Sem.run_bind,run_program,Result.andThen_ok] at h
   generalize (nilAhead _ _ _ _).run P w = q at h
   cases q with
   | halt x w1=>cases h
   | ok y w1 =>
    simp only [Result.andThen_ok] at h;split at h
    ·simp [unsupported] at h
    ·simp only [Sem.run_pure] at h; injection h with h1 h2; exact ⟨_,h1.symm⟩
  ·simp only [Sem.run_pure] at h; injection h with h1 h2; exact ⟨_,h1.symm⟩
 all_goals simp only [execOp,hop,Sem.run_bind,Sem.run_pure] at h
 all_goals first
  | (injection h with h1 h2; exact ⟨_,h1.symm⟩)
  | (unfold Result.andThen at h; split at h <;> first | (injection h with h1 h2; exact ⟨_,h1.symm⟩) | cases h)
  | skip
section
variable {P:Program} {τ:Tau} {n:Nat} {S:World -> Prop} {l:List Oper} {K:Exit -> St -> World -> Prop} {s:St} {w:World}
noncomputable def pickN (l:List Oper) (is:List Nat):List Oper :=
 List.rec (motive:=fun _=>List Oper) [] (fun i _ ih=>match nth l i with
  | some o=>o :: ih
  | none=>ih) is
noncomputable def picksB (l:List Oper) (is:List Nat):Bool :=
 List.rec (motive:=fun _=>Bool) true (fun i _ ih=>match nth l i with
  | some o=>picks.plainOp' o.op && ih
  | none=>false) is
theorem iQ' {l:List Oper}:∀ {is:List Nat},picksB l is = true -> picks l.toArray is (pickN l is)
 | [],_=>trivial
 | i :: r,h=>by
  have e1:picksB l (i :: r) = (match nth l i with
   | some o=>picks.plainOp' o.op && picksB l r
   | none=>false):=rfl
  have e2:pickN l (i :: r) = (match nth l i with
   | some o=>o :: pickN l r
   | none=>pickN l r):=rfl
  rw [e1] at h;rw [e2];cases hn:nth l i with
  | none=>rw [hn] at h; cases h
  | some o =>
   rw [hn] at h;simp only [Bool.and_eq_true] at h;exact ⟨by rw [dE'] at hn; simpa using hn,h.1,iQ' h.2⟩
end
section
variable {P:Program} {w:World} {k:Value -> World -> Prop} {kq:Value -> Prop} {C:World -> Prop} {ts:Array TypeId} {t:TypeId} {x y:Int}
theorem sR' {m:Sem Value} {v:Value} (h:∀ w,C w -> m.run P w = .ok v w) (hk:kq v):EvRunQ P C m kq:=by unfold EvRunQ; exact ⟨v,h,hk⟩
theorem sS' (w:World):(Builtin.max_ ts t #[.int .i64 x,.int .i64 y]).run P w = .ok (.int .i64 (max x y)) w:=by
 rw [run_max_int2]
 congr 2
 split <;> omega
theorem sT' (w:World):(Builtin.min_ ts t #[.int .i64 x,.int .i64 y]).run P w = .ok (.int .i64 (min x y)) w:=by
 rw [run_min_int2]
 congr 2
 split <;> omega
theorem ob' (h:k (.int .i64 (max x y)) w):EvRun P (Builtin.max_ ts t #[.int .i64 x,.int .i64 y]) w k:=run (sS' w) h
theorem nj' (h:k (.int .i64 (min x y)) w):EvRun P (Builtin.min_ ts t #[.int .i64 x,.int .i64 y]) w k:=run (sT' w) h
theorem sU' (hx:0 <= x) (hx':x <= 9223372036854775807) (hy:0 < y) (w:World):(binOp .quo t (.int .i64 x) (.int .i64 y)).run P w = .ok (.int .i64 (x / y)) w:=by
 have h0:0 <= x / y:=Int.ediv_nonneg hx (by omega);have h1:x / y <= x:=Int.ediv_le_self y hx;have hw:=IntWalk.i64_in (x / y) (by omega);simp [binOp_quo,Op.intDiv,Int.tdiv_eq_ediv_of_nonneg hx,hw,show ¬ y = 0 by omega]
theorem vU' (hx:0 <= x) (hx':x <= 9223372036854775807) (hy:0 < y) (h:k (.int .i64 (x / y)) w):EvRun P (binOp .quo t (.int .i64 x) (.int .i64 y)) w k:=run (sU' hx hx' hy w) h
end
section
variable {P:Program} {τ:Tau} {n:Nat} {a b c:Code} {s:St} {w:World} {K:Exit -> St -> World -> Prop}
theorem fY' (hτ:ax' P τ) (h:wpx P τ n c s w K):EvCode P n c s w K:=by
 unfold EvCode;exact fun a hF=>aX' hτ c s w K h a hF
theorem sV' (I:List (Nat × Value)) (hd:s.d = []) (hs:Has s I) (h:EvCode P n c ⟨I,[]⟩ w K):EvCode P n c s w K:=by
 unfold EvCode at *
 exact fun a hF=>h a ⟨hF.size,by rw [hF.defers,hd],fun t v hv=>hF.has t v (hs.get t v hv)⟩
theorem bi' (hτ:ax' P τ) (h:wpx P τ n a s w (la' (fun s' w'=>EvCode P n b s' w' K) K)):EvCode P n (.seq a b) s w K:=by
 unfold EvCode;intro act hF;refine wp_seq ?_;refine Go.wp_mono (aX' hτ a s w _ h act hF) fun e a' w' hl=>?_;obtain ⟨s',hF',hs⟩:=hl;cases e with
 | normal =>
  have hs:EvCode P n b s' w' K:=hs;unfold EvCode at hs;exact hs a' hF'
 | exit id=>exact ⟨s',hF',hs⟩
 | goto l=>exact ⟨s',hF',hs⟩
 | ret=>exact ⟨s',hF',hs⟩
 | panic ch=>exact ⟨s',hF',hs⟩
 | outgrown=>exact ⟨s',hF',hs⟩
theorem sW' (hτ:ax' P τ) (h:EvCode P n a s w (la' (fun s' w'=>EvCode P n b s' w' K) K)):EvCode P n (.seq a b) s w K:=by
 unfold EvCode at h;unfold EvCode;intro act hF;refine wp_seq ?_;refine Go.wp_mono (h act hF) fun e a' w' hl=>?_;obtain ⟨s',hF',hs⟩:=hl;cases e with
 | normal =>
  have hs:∀ (a:Act),Fr n a s' -> Code.wp P b (lift n K) a w':=hs;exact hs a' hF'
 | exit id=>exact ⟨s',hF',hs⟩
 | goto l=>exact ⟨s',hF',hs⟩
 | ret=>exact ⟨s',hF',hs⟩
 | panic ch=>exact ⟨s',hF',hs⟩
 | outgrown=>exact ⟨s',hF',hs⟩
theorem sX' {K':Exit -> St -> World -> Prop} (hK:∀ e s w,K e s w -> K' e s w) (h:EvCode P n c s w K):EvCode P n c s w K':=by
 unfold EvCode at *
 exact fun act hF=>Go.wp_mono (h act hF) fun e a' w' hl=>nU' hK e a' w' hl
theorem fM' (hτ:ax' P τ) {σ:Type} (I:σ -> List (Nat × Value)) (R:σ -> World -> Prop) (h1:wpx P τ n a s w (la' (fun s' w'=>∃ x,s'.d = [] /\ Has s' (I x) /\ R x w') K))
  (h2:∀ x w',R x w' -> EvCode P n b ⟨I x,[]⟩ w' K):EvCode P n (.seq a b) s w K:=by
 have h1':=fY' hτ h1;refine sW' hτ (sX' (fun e s' w' h=>?_) h1');cases e with
 | normal =>
  obtain ⟨x,hd,hs,hR⟩:=h;exact sV' (I x) hd hs (h2 x w' hR)
 | exit id=>exact h
 | goto l=>exact h
 | ret=>exact h
 | panic ch=>exact h
 | outgrown=>exact h
theorem qC' {id:Nat} (h:EvCode P n c s w (ma' id K)):EvCode P n (.block id c) s w K:=by
 unfold EvCode at *
 intro act hF;refine wp_block ?_;refine Go.wp_mono (h act hF) fun e a' w' hl=>?_;obtain ⟨s',hF',hs⟩:=hl;cases e with
 | normal=>exact ⟨s',hF',hs⟩
 | exit j =>
  simp only [Exit.inBlock];simp only [ma'] at hs
  by_cases hj:j = id
  ·subst hj; rw [if_pos rfl]; simp at hs; exact ⟨s',hF',hs⟩
  ·rw [if_neg hj]
   have:Nat.beq j id = false:=by
    cases hb:Nat.beq j id with
    | true=>exact absurd (Nat.eq_of_beq_eq_true hb) hj
    | false=>rfl
   rw [this] at hs;exact ⟨s',hF',hs⟩
 | goto l=>exact ⟨s',hF',hs⟩
 | ret=>exact ⟨s',hF',hs⟩
 | panic ch=>exact ⟨s',hF',hs⟩
 | outgrown=>exact ⟨s',hF',hs⟩
theorem uF' {σ:Type} (I:σ -> List (Nat × Value)) (R:σ -> World -> Prop) (μ:σ -> Nat) (x0:σ)
  (hd:s.d = []) (h0:Has s (I x0)) (hR:R x0 w)
  (round:∀ x w,R x w -> EvCode P n c ⟨I x,[]⟩ w (la' (fun s' w'=>∃ y,μ y < μ x /\ s'.d = [] /\ Has s' (I y) /\ R y w') K)):EvCode P n (.loop c) s w K:=by
 unfold EvCode;intro a hF;have hex:∀ a' s',Fr n a' s' -> s'.d = [] -> ∀ y,Has s' (I y) -> Fr n a' ⟨I y,[]⟩:=fun a' s' hF' hd y hy =>
  ⟨hF'.size,by rw [hF'.defers,hd],fun t v hv=>hF'.has t v (hy.get t v hv)⟩
 refine eL' (fun y a w=>Fr n a ⟨I y,[]⟩ /\ R y w) μ x0 ⟨hex a s hF hd x0 h0,hR⟩ ?_;intro y a w ⟨hFy,hRy⟩;have hr:=round y w hRy;unfold EvCode at hr;refine Go.wp_mono (hr a hFy) fun e a' w' hl=>?_;obtain ⟨s',hF',hs⟩:=hl;cases e with
 | normal =>
  obtain ⟨z,hlt,hd,hz,hRz⟩:=hs;exact ⟨z,⟨hex a' s' hF' hd z hz,hRz⟩,hlt⟩
 | exit id=>exact ⟨s',hF',hs⟩
 | goto l=>exact ⟨s',hF',hs⟩
 | ret=>exact ⟨s',hF',hs⟩
 | panic ch=>exact ⟨s',hF',hs⟩
 | outgrown=>exact ⟨s',hF',hs⟩
theorem lp (hτ:ax' P τ) {σ:Type} (I:σ -> List (Nat × Value)) (R:σ -> World -> Prop) (μ:σ -> Nat) (x0:σ)
  (hd:s.d = []) (h0:Has s (I x0)) (hR:R x0 w)
  (round:∀ x w,R x w -> wpx P τ n c ⟨I x,[]⟩ w (la' (fun s' w'=>∃ y,μ y < μ x /\ s'.d = [] /\ Has s' (I y) /\ R y w') K)):EvCode P n (.loop c) s w K :=
 uF' I R μ x0 hd h0 hR fun x w hx=>fY' hτ (round x w hx)
end
theorem ee' {P:Program} {f:FuncId} {fn:Func} {c:Code} {args:List Value} {w:World} {R:Ending -> World -> Prop} (n:Nat) (rs:List ResultVar)
  (hf:P.funcs[f]? = some fn) (hb:fn.body = some c) (hn:fn.ntmps = n) (hrs:fn.results.toList = rs) (hle:args.length <= n)
  (h:EvCode P n c ⟨ini args 0,[]⟩ w (fnK P rs R)):Calls P f args.toArray w R:=by
 subst hn hrs;refine calls_of_wp hf hb ?_;have hF:Fr fn.ntmps { tmps:=args.toArray ++ Array.replicate (fn.ntmps - args.toArray.size) undef,defers:=[] } ⟨ini args 0,[]⟩:=by
  refine ⟨by simp; omega,rfl,fun t v ht=>?_⟩;obtain ⟨_,h2⟩:=iM' _ _ _ _ ht;rw [Nat.sub_zero] at h2;have hlt:t < args.length:=(List.getElem?_eq_some_iff.1 h2).1;rw [Array.getElem?_append_left (by simpa using hlt)]
  simpa using h2
 unfold EvCode at h;refine Go.wp_mono (h _ hF) fun e a' w' hl=>?_;obtain ⟨s,hF',hs⟩:=hl;have hd:=hF'.defers;cases e with
 | normal =>
  simp only [fnK] at hs;split at hs
  ·rename_i h0
   obtain ⟨vs,h1,h2⟩:=cE' hF' hs;exact ⟨by rw [hd,h0],_,h1,h2⟩
  ·exact hs.elim
 | ret =>
  simp only [fnK] at hs;split at hs
  ·rename_i h0
   obtain ⟨vs,h1,h2⟩:=cE' hF' hs;exact ⟨by rw [hd,h0],_,h1,h2⟩
  ·exact hs.elim
 | panic ch =>
  simp only [fnK] at hs;split at hs
  ·rename_i h0
   exact ⟨by rw [hd,h0],hs⟩
  ·exact hs.elim
 | outgrown=>exact hs
 | exit id=>exact hs.elim
 | goto l=>exact hs.elim
end Go.Wx
namespace Go.Wx
abbrev iV (n:Int):Value:=.int .i64 n
@[simp] abbrev XL (X:List Nat) (w:World):Prop:=∀ b ∈ X,b < w.heap.size
theorem Kp.tq {X:List Nat} {w w' w2:World} (k:Kp X w w') (k2:Kp X w' w2):Kp X w w2:=k.trans k2 fun _ h _=>h
theorem Bk.kq {w w':World} {b T:Nat} {cs:List Value} (h:Bk w.heap b cs T) (k:Kp [] w w'):Bk w'.heap b cs T:=h.kp k (by simp)
theorem kQd {X:List Nat} (w:World) {n:Nat}:Kp X w { w with drawn:=n }:=(Kp.refl X w).dr n
abbrev dr (w:World):World:={ w with drawn:=w.drawn + 1 }
theorem _root_.JJ {α:Type} {a b:α} {l:List α}:a ∈ b :: l ↔ a = b ∨ a ∈ l:=List.mem_cons 
theorem _root_.JK {α:Type} {a b:List α}:(a ++ b).length = a.length + b.length:=List.length_append 
theorem _root_.JQ {α:Type} {l:List α} {i:Nat} {a:α} (h:l[i]? = some a):a ∈ l:=List.mem_of_getElem? h
theorem _root_.JV {α:Type} {a:α} {l:List α}:(a :: l).length = l.length + 1:=List.length_cons 
theorem _root_.JW {α:Type} {a:α} {s t:List α}:a ∈ s ++ t ↔ a ∈ s ∨ a ∈ t:=List.mem_append 
theorem _root_.JZ {α:Type} {a:α}:¬ a ∈ ([]:List α):=List.not_mem_nil 
theorem _root_.JY {α:Type} {l:List α} {i:Nat} (h:l.length ≤ i):l.drop i = []:=List.drop_eq_nil_of_le h
theorem _root_.JX {α β:Type} {f:α → β} {l:List α} {i:Nat}:(l.map f)[i]? = l[i]?.map f:=List.getElem?_map 
theorem _root_.JU {α:Type}:([]:List α).length = 0:=List.length_nil 
theorem _root_.JH {α:Type} {a:α} {l:List α} (h:a ∈ l):∃ i:Nat,l[i]? = some a:=List.getElem?_of_mem h
theorem _root_.JG {α:Type} {l:List α} {i:Nat} (h:l.length ≤ i):l.take i = l:=List.take_of_length_le h
theorem _root_.JF {α:Type} {l:List α}:l.length = 0 ↔ l = []:=List.length_eq_zero_iff 
theorem _root_.JD {α:Type} (l:List α):l ++ [] = l:=List.append_nil l
theorem _root_.JB {α:Type} {a b:α} (h:some a = some b):a = b:=Option.some.inj h
theorem _root_.KJ (n:Nat):n ≤ n:=Nat.le_refl n
theorem _root_.KQ {n m k:Nat} (h:n ≤ m) (h2:m ≤ k):n ≤ k:=Nat.le_trans h h2
theorem _root_.KV (n:Nat):0 ≤ n:=Nat.zero_le n
theorem _root_.KW (n:Nat):0 + n = n:=Nat.zero_add n
theorem _root_.KZ {n m k:Nat} (h:n < m) (h2:m ≤ k):n < k:=Nat.lt_of_lt_of_le h h2
end Go.Wx
