import Derived.Test.YtpealcfjbcpoiaaGreatMl07
set_option linter.unusedVariables false
set_option linter.unusedSimpArgs false
set_option maxHeartbeats 4000000
namespace Lv
def gt (d:List Int) (v:Nat):Int:=d.getD v 0
structure Inv (n:Nat) (os:List aU') (low:Int) (B:Int) (d:List Int):Prop where
 len:d.length = n
 bd:∀ v,v < n -> gt d v = non \/ (-B <= gt d v /\ gt d v <= B)
 walk:∀ v,v < n -> gt d v ≠ non -> Walk n os low v (gt d v)
def Good (n:Nat) (os:List aU'):Prop:=∀ o ∈ os,Rg n o.low /\ Rg n o.high /\ -1000 <= o.add /\ o.add <= 1000
def GeD (n:Nat) (d d':List Int):Prop:=∀ v,v < n -> gt d v <= gt d' v
structure Fix (n:Nat) (os:List aU') (d:List Int):Prop where
 zero:∀ v,v < n -> gt d 0 = non \/ gt d 0 <= gt d v
 ord:∀ o ∈ os,gt d o.low.toNat = non \/ gt d o.low.toNat + o.add <= gt d o.high.toNat
def unset (g:G) (low:Int) (d:List Int) (v:Nat):Bool:=match g low v with
 | none=>false
 | some p=>decide (gt d v = non \/ gt d v ≠ p)
end Lv
namespace Go.Proofs.YtpealcfjbcpoiaaGreat
open Go.Wx
theorem uT':Tryz.prog.stoodInHeld 123 = false:=by kernel_rfl
theorem eq65 (a b c d:Int) (w:World):(Op.equal 123 (.agg #[iV a,iV b]) (.agg #[iV c,iV d])).run Tryz.prog w = .ok (decide (a = c /\ b = d)) w:=by
 have hf:Tryz.prog.underlying 123 = some (.struct (Tryz.prog.fieldsOf 123)):=by rw [Program.fieldsOf,Tryz.underlying123]
 have h:=run_equalIn_struct (P:=Tryz.prog) w 9999 123 #[iV a,iV b] #[iV c,iV d] hf uT';show (Op.equalIn 10000 123 _ _).run Tryz.prog w = _;rw [h];simp [Program.fieldsOf,Tryz.underlying123,Op.eqFields,part,go_sem,Tryz.underlying3]
 by_cases h1:a = c <;> by_cases h2:b = d <;> simp [h1,h2,go_sem]
theorem ck3 (e:Bool) (d:Nat) (n:Int) (w:World):(Instr.checkKey e (d + 1) 3 (iV n)).run Tryz.prog w = .ok () w:=by
 simp only [Instr.checkKey,Sem.run_bind,run_underlying Tryz.underlying3,Result.andThen_ok]
 rfl
theorem wj' (e:Bool) (d:Nat) (a b:Int) (w:World):(Instr.checkKey e (d + 1 + 1) 123 (.agg #[iV a,iV b])).run Tryz.prog w = .ok () w:=by
 rw [Instr.checkKey];simp only [Sem.run_bind,run_underlying Tryz.underlying123,Result.andThen_ok];rw [<- Array.forIn_toList];simp [part,go_sem,ck3]
theorem wk' (e:Bool) (a b:Int) (w:World):(Instr.checkKey e 10000 123 (.agg #[iV a,iV b])).run Tryz.prog w = .ok () w:=wj' e 9998 a b w
def is' (es:List MapEntry) (l:List (Int × Int × Int)):Prop:=es.map (fun e=>(e.key,e.val)) = l.map fun t=>(Value.agg #[iV t.1,iV t.2.1],iV t.2.2)
def lkI (x y:Int):List (Int × Int × Int) -> Nat -> Option (Nat × Int)
 | [],_=>none
 | t :: r,i=>if x = t.1 /\ y = t.2.1 then some (i,t.2.2) else lkI x y r (i + 1)
theorem oT' (x y:Int) (w:World):∀ (es:List MapEntry) (l:List (Int × Int × Int)) (i:Nat),is' es l ->
  (Instr.findAsking 123 (.agg #[iV x,iV y]) es i).run Tryz.prog w = .ok ((lkI x y l i).map fun p=>(p.1,iV p.2)) w
 | [],[],i,_=>by simp [Instr.findAsking,lkI]
 | e :: es,t :: l,i,h=>by
  simp only [is',List.map_cons,List.cons.injEq,Prod.mk.injEq] at h;obtain ⟨⟨h1,h2⟩,h3⟩:=h;have ih:=oT' x y w es l (i + 1) h3;simp only [Instr.findAsking,Sem.run_bind,h1,eq65,Result.andThen_ok,lkI]
  by_cases hc:x = t.1 /\ y = t.2.1
  ·simp [hc,h2]
  ·simp [hc,ih]
 | [],_ :: _,_,h=>by simp [is'] at h
 | _ :: _,[],_,h=>by simp [is'] at h
theorem uU' (x y:Int) (w:World) (es:List MapEntry) (l:List (Int × Int × Int)) (h:is' es l) :
  (Instr.findKey 123 (.agg #[iV x,iV y]) es).run Tryz.prog w = .ok ((lkI x y l 0).map fun p=>(p.1,iV p.2)) w:=by
 simp only [Instr.findKey,Sem.run_bind,run_underlying Tryz.underlying123,Result.andThen_ok]
 match es,l,h with
 | [],[],_=>simp [Instr.findNow,lkI]
 | e :: es,t :: l,h =>
  simp only [Instr.findNow,Instr.sameNow];exact oT' x y w _ _ 0 h
 | [],_ :: _,h=>simp [is'] at h
 | _ :: _,[],h=>simp [is'] at h
def Gr (h:Array Obj) (b:Nat) (g:Lv.G):Prop:=∃ es clock l,h[b]? = some (.map es clock) /\ is' es.toList l /\ ∀ x y,g x y = (lkI x y l 0).map (·.2)
theorem Gr.lt {h:Array Obj} {b:Nat} {g:Lv.G} (hb:Gr h b g):b < h.size:=by
 obtain ⟨es,clock,l,h1,_⟩:=hb;rcases Nat.lt_or_ge b h.size with h' | h'
 ·exact h'
 ·simp [Array.getElem?_eq_none h'] at h1
theorem Gr.kp {X:List Nat} {w w':World} {b:Nat} {g:Lv.G} (hb:Gr w.heap b g) (h:Kp X w w') (hx:b ∉ X):Gr w'.heap b g:=by
 have hl:=hb.lt;obtain ⟨es,clock,l,h1,h2⟩:=hb;exact ⟨es,clock,l,by rw [h.block b hl hx]; exact h1,h2⟩
theorem gQ' {w:World} {b:Nat} {g:Lv.G} (hg:Gr w.heap b g) (x y:Int) (ok:Bool) :
  (Instr.lookup 77 (.map (some b)) (.agg #[iV x,iV y]) ok).run Tryz.prog w = .ok (if ok then .tuple #[iV ((g x y).getD 0),.bool (g x y).isSome] else iV ((g x y).getD 0)) w:=by
 obtain ⟨es,clock,l,h1,h2,h3⟩:=hg;have hobj:(getObj b).run Tryz.prog w = .ok (.map es clock) w:=by simp [getObj,Sem.run,h1]
 have hz:(zeroValue 3).run Tryz.prog w = .ok (iV 0) w:=by kernel_rfl
 have hfk:=uU' x y w es.toList l h2;simp only [Instr.lookup,Sem.run_bind,run_underlying Tryz.underlying77,Result.andThen_ok,hobj,wk',h3];cases hl:lkI x y l 0 with
 | none=>rw [hl] at hfk; simp [hfk,hz]
 | some p=>rw [hl] at hfk; simp [hfk]
theorem my' (x y:Int):∀ (l:List (Int × Int × Int)) (i:Nat) (p:Nat × Int),lkI x y l i = some p -> i <= p.1 /\ ∃ t,l[p.1 - i]? = some t /\ t.1 = x /\ t.2.1 = y /\ t.2.2 = p.2
 | [],i,p,h=>by simp [lkI] at h
 | t :: l,i,p,h=>by
  simp only [lkI] at h;split at h
  ·rename_i hc
   have:(i,t.2.2) = p:=by simpa using h
   subst this;exact ⟨KJ _,t,by simp,hc.1.symm,hc.2.symm,rfl⟩
  ·obtain ⟨h1,u,h2,h3⟩:=my' x y l (i + 1) p h
   refine ⟨by omega,u,?_,h3⟩;rw [show p.1 - i = (p.1 - (i + 1)) + 1 by omega]
   simpa using h2
theorem lt' (x y v:Int):∀ (l:List (Int × Int × Int)) (i:Nat) (p:Nat × Int),lkI x y l i = some p -> ∀ a b,(lkI a b (l.set (p.1 - i) (x,y,v)) i).map (·.2) = if a = x /\ b = y then some v else (lkI a b l i).map (·.2)
 | [],i,p,h=>by simp [lkI] at h
 | t :: l,i,p,h=>by
  intro a b;simp only [lkI] at h;split at h
  ·rename_i hc
   have:(i,t.2.2) = p:=by simpa using h
   subst this;simp only [Nat.sub_self,List.set_cons_zero,lkI]
   by_cases hab:a = x /\ b = y
   ·simp [hab]
   ·rw [if_neg hab,if_neg hab,if_neg (by rw [<- hc.1,<- hc.2]; exact hab)]
  ·rename_i hc
   obtain ⟨h1,_⟩:=my' x y l (i + 1) p h;have ih:=lt' x y v l (i + 1) p h a b;rw [show p.1 - i = (p.1 - (i + 1)) + 1 by omega];simp only [List.set_cons_succ,lkI]
   by_cases hab:a = t.1 /\ b = t.2.1
   ·rw [if_pos hab,if_pos hab,if_neg]
    ·rintro ⟨rfl,rfl⟩; exact hc hab
   ·rw [if_neg hab,if_neg hab]; exact ih
theorem jd' (x y v:Int):∀ (l:List (Int × Int × Int)) (i:Nat),lkI x y l i = none -> ∀ a b,(lkI a b (l ++ [(x,y,v)]) i).map (·.2) = if a = x /\ b = y then some v else (lkI a b l i).map (·.2)
 | [],i,_=>by intro a b; simp only [List.nil_append,lkI]; split <;> simp
 | t :: l,i,h=>by
  intro a b;simp only [lkI] at h;split at h
  ·cases h
  ·rename_i hc
   have ih:=jd' x y v l (i + 1) h a b;simp only [List.cons_append,lkI]
   by_cases hab:a = t.1 /\ b = t.2.1
   ·rw [if_pos hab,if_pos hab,if_neg]
    rintro ⟨rfl,rfl⟩; exact hc hab
   ·rw [if_neg hab,if_neg hab]; exact ih
theorem uV' (d:Nat) (x y:Int):Instr.sameBits (d + 1) (.agg #[iV x,iV y]) (.agg #[iV x,iV y]) = true:=by
 simp [Instr.sameBits]
theorem mz' {w:World} {b:Nat} {g:Lv.G} (hg:Gr w.heap b g) (x y v:Int) {k:World -> Prop} (hk:∀ w',Gr w'.heap b (Lv.putG g x y v) -> w'.heap.size = w.heap.size -> Kp [b] w w' -> k w') :
  EvRunU Tryz.prog (Instr.mapUpdate 77 (.map (some b)) (.agg #[iV x,iV y]) (iV v)) w k:=by
 have hlt:=hg.lt;obtain ⟨es,clock,l,h1,h2,h3⟩:=hg;have hobj:(getObj b).run Tryz.prog w = .ok (.map es clock) w:=by simp [getObj,Sem.run,h1]
 have hfk:=uU' x y w es.toList l h2;have hset:∀ o,(setObj b o).run Tryz.prog w = .ok () { w with heap:=w.heap.setIfInBounds b o }:=fun o=>by simp [setObj,Sem.run,h1]
 have hkp:∀ o,Kp [b] w { w with heap:=w.heap.setIfInBounds b o }:=fun o=>⟨rfl,rfl,rfl,by simp,fun i _ hx=>by
  have:b ≠ i:=fun e=>hx (by simp [e]);simp [Array.getElem?_setIfInBounds_ne this]⟩
 have hat:∀ o,(w.heap.setIfInBounds b o)[b]? = some o:=fun o=>by simp [hlt]
 have hlen:es.size = l.length:=by
  have:=congrArg List.length h2
  simpa using this
 cases hl:lkI x y l 0 with
 | none =>
  rw [hl] at hfk;refine ux' (w':={ w with heap:=w.heap.setIfInBounds b (.map (es.push { key:=.agg #[iV x,iV y],val:=iV v,born:=clock }) (clock + 1)) }) ?_ (hk _ ?_ (by simp) (hkp _))
  ·simp [Instr.mapUpdate,run_underlying Tryz.underlying77,hobj,wk',hfk,hset]
  ·refine ⟨_,_,l ++ [(x,y,v)],hat _,?_,fun a c=>?_⟩
   ·simp only [is',Array.toList_push,List.map_append,h2,List.map_cons,List.map_nil]
    rw [h2]
   ·rw [jd' x y v l 0 hl a c,<- h3]
    rfl
 | some p =>
  rw [hl] at hfk;obtain ⟨_,t,ht,e1,e2,e3⟩:=my' x y l 0 p hl;rw [Nat.sub_zero] at ht;have hp:p.1 < l.length:=(List.getElem?_eq_some_iff.1 ht).1;have hkey:((es[p.1]?).map (·.key)).getD (.agg #[iV x,iV y]) = .agg #[iV x,iV y]:=by
   have:=congrArg (fun l=>l[p.1]?) h2;simp only [JX,ht,Option.map_some,Array.getElem?_toList] at this;cases hes:es[p.1]? with
   | none=>simp
   | some e =>
    rw [hes] at this;simp only [Option.map_some,Option.some.injEq,Prod.mk.injEq] at this;simp [this.1,e1,e2]
  refine ux' (w':={ w with heap:=w.heap.setIfInBounds b (.map (es.modify p.1 fun e=>{ e with key:=.agg #[iV x,iV y],val:=iV v }) clock) }) ?_ (hk _ ?_ (by simp) (hkp _))
  ·have hst:(Instr.keyThatStays (.agg #[iV x,iV y]) (.agg #[iV x,iV y])).run Tryz.prog w = .ok (.agg #[iV x,iV y]) w:=by
    unfold Instr.keyThatStays;rw [show (10000:Nat) = 9999 + 1 from rfl,uV'];simp
   simp only [Instr.mapUpdate,Sem.run_bind,run_underlying Tryz.underlying77,Result.andThen_ok,hobj,wk'];rw [hfk];simp only [Option.map_some,Result.andThen_ok,Sem.run_bind];rw [hkey,hst];simp [hset]
  ·refine ⟨_,_,l.set p.1 (x,y,v),hat _,?_,fun a c=>?_⟩
   ·unfold is'
    apply List.ext_getElem?;intro i;have:=congrArg (fun l=>l[i]?) h2;simp only [JX,Array.getElem?_toList] at this ⊢;simp only [Array.getElem?_modify,List.getElem?_set]
    by_cases hi:p.1 = i
    ·subst hi
     have hes:p.1 < es.size:=by omega
     simp [hp,hes]
    ·simp [hi,this]
   ·have:=lt' x y v l 0 p hl a c
    rw [Nat.sub_zero] at this;rw [this,<- h3]
    rfl
theorem uW' {w:World} {k:Value -> World -> Prop} (hk:∀ b w',b = w.heap.size -> Gr w'.heap b (fun _ _=>none) -> w'.heap.size = b + 1 -> Kp [] w w' -> k (.map (some b)) w'):EvRun Tryz.prog (Instr.makeMap 77 none) w k:=by
 refine run (w':=w.alloc (.map #[] 0)) (by simp [Instr.makeMap]) (hk _ _ rfl ⟨#[],0,[],?_,rfl,fun _ _=>rfl⟩ (by simp) (Kp.alloc _ _));show (w.heap.push _)[_]? = _;simp
end Go.Proofs.YtpealcfjbcpoiaaGreat
namespace Lv
def BdG (B:Int) (g:G):Prop:=∀ x y v,g x y = some v -> -B <= v /\ v <= B
theorem qY' {B:Int} {g:G} (h:BdG B g) {x y v:Int} (h1:-B <= v) (h2:v <= B):BdG B (cl' g x y v):=fun a b u hu=>by
 rcases raise_cases g x y v a b u hu with h3 | ⟨_,_,rfl⟩
 ·exact h a b u h3
 ·exact ⟨h1,h2⟩
def J (B:Int) (m low high:Nat) (g:G):Prop:=∀ x y v,g x y = some v ->
 (-(6 * B) <= v /\ v <= 6 * B) /\ ((x = m \/ y = m) -> -(3 * B) <= v /\ v <= 3 * B) /\ ((x = m /\ y = m) -> -(2 * B) <= v /\ v <= 2 * B) /\ (((low:Int) < x \/ ((low:Int) = x /\ (high:Int) <= y)) -> -B <= v /\ v <= B)
theorem oU' {B:Int} {g:G} (hB:0 <= B) (h:BdG B g) (m:Nat):J B m 0 0 g:=fun x y v hv=>by
 have:=h x y v hv;refine ⟨by omega,fun _=>by omega,fun _=>by omega,fun _=>this⟩
theorem uX' {B:Int} {m low high:Nat} {g:G} (h:J B m low high g):J B m low (high + 1) (step m low high g):=by
 rcases step_cases m low high g with ⟨a,b,ha,hb,e⟩ | e
 ·rw [e]
  intro x y v hv;obtain ⟨a1,a2,a3,a4⟩:=h _ _ _ ha;obtain ⟨b1,b2,b3,b4⟩:=h _ _ _ hb;rcases raise_cases _ _ _ _ _ _ _ hv with h3 | ⟨rfl,rfl,rfl⟩
  ·obtain ⟨c1,c2,c3,c4⟩:=h x y v h3
   refine ⟨c1,c2,c3,fun hc=>c4 (by omega)⟩
  ·have a2':=a2 (.inr rfl)
   have b2':=b2 (.inl rfl);refine ⟨by omega,fun hc=>?_,fun hc=>?_,fun hc=>by omega⟩
   ·by_cases hh:(high:Int) = m
    ·have a4':=a4 (.inr ⟨rfl,by omega⟩)
     have b3':=b3 ⟨rfl,hh⟩;omega
    ·have hl:(low:Int) = m:=hc.resolve_right hh
     have b4':=b4 (.inr ⟨by omega,by omega⟩);have a3':=a3 ⟨hl,rfl⟩;omega
   ·have a4':=a4 (.inr ⟨rfl,by omega⟩)
    have b4':=b4 (.inr ⟨by omega,by omega⟩);omega
 ·rw [e]
  intro x y v hv;obtain ⟨c1,c2,c3,c4⟩:=h x y v hv;exact ⟨c1,c2,c3,fun hc=>c4 (by omega)⟩
theorem wl' {B:Int} {m low n:Nat} {g:G} (h:J B m low n g):J B m (low + 1) 0 g:=fun x y v hv=>by
 obtain ⟨c1,c2,c3,c4⟩:=h x y v hv;exact ⟨c1,c2,c3,fun hc=>c4 (by omega)⟩
theorem uY' {B:Int} {m low:Nat} {g:G} (h:J B m low 0 g) (k:Nat):J B m low k (rng (step m low) k g) :=
 bX' (f:=step m low) (fun k g=>J B m low k g) h k fun _ _ _ hx=>uX' hx
theorem sq' {B:Int} {m n:Nat} {g:G} (h:J B m 0 0 g) (k:Nat):J B m k 0 (rng (cn' n m) k g) :=
 bX' (f:=cn' n m) (fun k g=>J B m k 0 g) h k fun _ _ _ hx=>wl' (uY' hx n)
theorem wm' {B:Int} {m low high:Nat} {g:G} (h:J B m low high g) {a b:Int} (ha:g low m = some a) (hb:g m high = some b):-(6 * B) <= a + b /\ a + b <= 6 * B:=by
 have a2:=(h _ _ _ ha).2.1 (.inr rfl);have b2:=(h _ _ _ hb).2.1 (.inl rfl);omega
theorem wn' {B:Int} {m low high:Nat} {g:G} (h:J B m low high g):BdG (6 * B) g:=fun x y v hv=>(h x y v hv).1
theorem qZ' (n:Nat):BdG 1000 (ic' n):=fun x y v hv=>by
 obtain ⟨rfl,_⟩:=(gp' n n (KJ _) x y v).1 hv;omega
def pw:Nat -> Int
 | 0=>1000
 | m + 1=>6 * pw m
theorem wo':∀ m,m <= 17 -> 0 <= pw m /\ 6 * pw m <= 9000000000000000000:=by
 intro m hm
 match m,hm with
 | 0,_=>decide
 | 1,_=>decide
 | 2,_=>decide
 | 3,_=>decide
 | 4,_=>decide
 | 5,_=>decide
 | 6,_=>decide
 | 7,_=>decide
 | 8,_=>decide
 | 9,_=>decide
 | 10,_=>decide
 | 11,_=>decide
 | 12,_=>decide
 | 13,_=>decide
 | 14,_=>decide
 | 15,_=>decide
 | 16,_=>decide
 | 17,_=>decide
 | m + 18,h=>omega
theorem tr' {B:Int} {n m:Nat} {g:G} (hB:0 <= B) (h:BdG B g):BdG (6 * B) (pass n m g):=wn' (sq' (n:=n) (oU' hB h m) n)
end Lv
namespace Go.Proofs.YtpealcfjbcpoiaaGreat
open Go.Wx Lv
def Rw (N:Nat) (h:Array Obj) (a:Option Addr) (k len:Nat) (c:Nat -> Nat -> Value):Prop :=
 len = 0 \/ ∃ b o,a = some ⟨b,o,none⟩ /\ b < N /\ ∀ i j,i < len -> j < k -> Cl h b (o + i * k + j) (c i j)
theorem Rw.kp {N k len:Nat} {w w':World} {a:Option Addr} {c:Nat -> Nat -> Value} (h:Rw N w.heap a k len c) (hk:Kp [] w w') {N':Nat} (hN:N <= N'):Rw N' w'.heap a k len c:=by
 rcases h with h | ⟨b,o,h1,h2,h3⟩
 ·exact .inl h
 ·exact .inr ⟨b,o,h1,by omega,fun i j hi hj=>(h3 i j hi hj).kp hk (by simp)⟩
def I64 (x:Int):Prop:=-9223372036854775808 <= x /\ x <= 9223372036854775807
def Ints (N:Nat) (h:Array Obj) (a:Option Addr) (l:List Int):Prop:=Rw N h a 1 l.length (fun i _=>iV (l.getD i 0)) /\ ∀ x ∈ l,I64 x
def Atoms (N:Nat) (h:Array Obj) (a:Option Addr) (l:List Atom):Prop :=
 Rw N h a 2 l.length (fun i j=>iV (if j = 0 then (l.getD i default).var else (l.getD i default).add)) /\ ∀ x ∈ l,I64 x.var /\ I64 x.add
def kl' (N:Nat) (h:Array Obj) (a:Option Addr) (l:List aU'):Prop :=
 Rw N h a 3 l.length (fun i j=>iV (if j = 0 then (l.getD i default).low else if j = 1 then (l.getD i default).add else (l.getD i default).high)) /\ ∀ x ∈ l,I64 x.low /\ I64 x.add /\ I64 x.high
theorem Atoms.kp {N:Nat} {w w':World} {a:Option Addr} {l:List Atom} (h:Atoms N w.heap a l) (hk:Kp [] w w') {N':Nat} (hN:N <= N'):Atoms N' w'.heap a l:=⟨h.1.kp hk hN,h.2⟩
theorem eY' {α:Type} [Inhabited α] (l:List α) (k:Nat) (h:k < l.length):l.drop k = l.getD k default :: l.drop (k + 1):=by
 rw [List.drop_eq_getElem_cons h];simp [h]
theorem mA' {α:Type} [Inhabited α] (l:List α) (k:Nat) (h:k < l.length):l.getD k default ∈ l:=by
 simp [h]
theorem at2 {h:Array Obj} {b o:Nat} {x y:Value} (h0:Cl h b (o + 0) x) (h1:Cl h b (o + 1) y):∀ j v,[x,y][j]? = some v -> Cl h b (o + j) v:=by
 intro j v hv
 match j,hv with
 | 0,hv=>simp at hv; subst hv; exact h0
 | 1,hv=>simp at hv; subst hv; exact h1
 | j + 2,hv=>simp at hv
theorem at3 {h:Array Obj} {b o:Nat} {x y z:Value} (h0:Cl h b (o + 0) x) (h1:Cl h b (o + 1) y) (h2:Cl h b (o + 2) z):∀ j v,[x,y,z][j]? = some v -> Cl h b (o + j) v:=by
 intro j v hv
 match j,hv with
 | 0,hv=>simp at hv; subst hv; exact h0
 | 1,hv=>simp at hv; subst hv; exact h1
 | 2,hv=>simp at hv; subst hv; exact h2
 | j + 3,hv=>simp at hv
theorem mB' {w:World} {b:Nat} {g:G} (hg:Gr w.heap b g) (x y v:Int) :
  CC 66 #[.map (some b),.agg #[iV x,iV y],iV v] w (fun e w'=>e = .returned (.tuple #[]) /\ Gr w'.heap b (cl' g x y v) /\ Kp [b] w w'):=by
 refine oF Tryz.func66 ?_;refine cO (args:=[_,_,_]) 24 [] τok Tryz.func66 ?_;refine new fun b1 w1 hb1 hB1 hs1 hk1=>?_;have hg1:Gr w1.heap b g:=hg.kp hk1 (by simp);have hlt:=hg.lt;refine ldN [iV x,iV y] rfl (at2 (hB1.cl rfl) (hB1.cl rfl)) ?_;refine run (gQ' hg1 x y true) ?_;have keep:∀ old,g x y = some old -> ¬ old < v -> cl' g x y v = g:=fun old h1 h2=>by
  funext a c
  by_cases e:a = x /\ c = y
  ·obtain ⟨rfl,rfl⟩:=e; simp [cl',putG,h1,more,h2]
  ·exact eX' _ _ _ _ _ _ e
 cases hgo:g x y with
 | none =>
  have hr:cl' g x y v = putG g x y v:=by simp [cl',hgo,more]
  refine ldN [iV x,iV y] rfl (at2 (hB1.cl rfl) (hB1.cl rfl)) ?_;refine mz' hg1 x y v fun w2 hg2 hs2 hk2=>?_;refine ⟨rfl,by rw [hr]; exact hg2,?_⟩;exact (hk1.weak (by simp)).trans hk2 (fun _ h _=>h)
 | some old =>
  refine ac' (fun h1=>?_) (fun h1=>?_)
  ·have h1':old < v:=h1
   have hr:cl' g x y v = putG g x y v:=by simp [cl',hgo,more,h1']
   refine ldN [iV x,iV y] rfl (at2 (hB1.cl rfl) (hB1.cl rfl)) ?_;refine mz' hg1 x y v fun w2 hg2 hs2 hk2=>?_;refine ⟨rfl,by rw [hr]; exact hg2,?_⟩;exact (hk1.weak (by simp)).trans hk2 (fun _ h _=>h)
  ·exact ⟨rfl,by rw [keep old hgo h1]; exact hg1,hk1.weak (by simp)⟩
def it' (vars:Int) (os:List aU') (w:World) (e:Ending) (w':World):Prop :=
 Kp [] w w' /\ match bL' vars os with
  | .error n=>e = .returned (.tuple #[.map none,iV n])
  | .ok g=>∃ b,e = .returned (.tuple #[.map (some b),iV 0]) /\ Gr w'.heap b g /\ w.heap.size <= b
theorem Kp.own {w w1 w2:World} {b:Nat} (h:Kp [] w w1) (k:Kp [b] w1 w2) (hb:w.heap.size <= b):Kp [] w w2 :=
 h.trans k fun x hx hl=>by
  have:x = b:=by simpa using hx
  omega
theorem km' (vars:Int) (os:List aU') (a:Option Addr) (cap:Nat) (w:World) (hv:kl' w.heap.size w.heap a os) :
  CC 29 #[iV vars,.slice a os.length cap] w (it' vars os w):=by
 refine oF Tryz.func29 ?_;refine cO (args:=[_,_]) 146 [.tmp 4,.tmp 5] τok Tryz.func29 ?_;have err:∀ n,bL' vars os = .error n -> ∀ w',Kp [] w w' -> it' vars os w (.returned (.tuple #[.map none,iV n])) w':=fun n h w' hk=>⟨hk,by rw [h]⟩
 refine ac' (fun h1=>?_) (fun h1=>?_)
 ·exact err 1 (by unfold bL'; rw [if_pos (by omega)]) _ (Kp.refl _ _)
 refine ac' (fun h2=>?_) (fun h2=>?_)
 ·exact err 1 (by unfold bL'; rw [if_pos (by omega)]) _ (Kp.refl _ _)
 refine ac' (fun h3=>?_) (fun h3=>?_)
 ·exact err 5 (by unfold bL'; rw [if_neg (by omega),if_pos (by omega)]) _ (Kp.refl _ _)
 obtain ⟨n,hn⟩:∃ n:Nat,(n:Int) = vars + 1:=⟨vars.toNat + 1,by omega⟩
 have hn17:n <= 17:=by omega
 have hcl:bL' vars os = match mv' vars os (ic' n) with
  | none=>.error 1
  | some g=>match nL' n n 0 g with
   | none=>.error 7
   | some g'=>.ok g':=by
  have e:vars.toNat + 1 = n:=by omega
  unfold bL';rw [if_neg (by omega),if_neg (by omega),e]
  rfl
 refine uW' fun bm w1 hbm hg1 hs1 hk1=>?_;have hbw:w.heap.size <= bm:=by omega
 refine i6 ?_;refine loop τok (σ:=Nat) (fun k=>[(0,iV vars),(1,.slice a os.length cap),(6,.map (some bm)),(29,iV (vars + 1)),(30,iV k)])
  (fun k w'=>k <= n /\ Gr w'.heap bm (rng (fun v g=>putG (putG g v v 0) 0 v 0) k (fun _ _=>none)) /\ Kp [] w w') (fun k=>n - k) 0 ⟨rfl,rfl,rfl,rfl,rfl,trivial⟩ ⟨KV _,hg1,hk1⟩ ?_
 rintro k w2 ⟨hk,hg2,hk2⟩;refine ac' (fun h4=>?_) (fun h4=>?_)
 ·refine mz' hg2 k k 0 fun w3 hg3 hs3 hk3=>?_
  refine mz' hg3 0 k 0 fun w4 hg4 hs4 hk4=>?_;refine i6 ?_;exact ⟨k + 1,by omega,rfl,⟨rfl,rfl,rfl,rfl,rfl,trivial⟩,by omega,hg4,Kp.own (Kp.own hk2 hk3 hbw) hk4 hbw⟩
 obtain rfl:k = n:=by omega
 clear h4 hk
 have hg2':Gr w2.heap bm (ic' k):=hg2
 clear hg2
 obtain ⟨n,rfl⟩:∃ n,n = k:=⟨k,rfl⟩
 refine loop τok (σ:=Nat × G) (fun x=>[(0,iV vars),(41,.slice a os.length cap),(6,.map (some bm)),(42,iV os.length),(43,iV x.1)])
  (fun x w'=>x.1 <= os.length /\ Gr w'.heap bm x.2 /\ mv' vars os (ic' n) = mv' vars (os.drop x.1) x.2 /\ BdG 1000 x.2 /\ Kp [] w w') (fun x=>os.length - x.1) (0,ic' n) ⟨rfl,rfl,rfl,rfl,rfl,trivial⟩
  ⟨KV _,hg2',rfl,qZ' n,hk2⟩ ?_
 rintro ⟨k,g⟩ w3 ⟨hk,hg3,hord,hbd,hk3⟩;refine ac' (fun h5=>?_) (fun h5=>?_)
 ·have hlt:k < os.length:=by omega
  obtain ⟨x,hx⟩:∃ x,x = os.getD k default:=⟨_,rfl⟩
  have hord':mv' vars os (ic' n) = if bw' vars x then none else mv' vars (os.drop (k + 1)) (cl' g x.low x.high x.add):=by
   rw [hord,eY' os k hlt,<- hx]; rfl
  rcases hv.1 with h0 | ⟨b,o,rfl,hb,hc⟩
  ·omega
  have hc0:=(hc k 0 hlt (by omega)).kp hk3 (by simp);have hc1:=(hc k 1 hlt (by omega)).kp hk3 (by simp);have hc2:=(hc k 2 hlt (by omega)).kp hk3 (by simp);simp only [if_true,if_false,Nat.one_ne_zero,<- hx] at hc0 hc1 hc2;refine ix k rfl hlt ?_;refine ldN [iV x.low,iV x.add,iV x.high] rfl (at3 hc0 hc1 hc2) ?_;refine new fun b4 w4 hb4 hB4 hs4 hk4=>?_;refine stN hB4 rfl (by simp [Value.oneCell']) fun w5 hB5 hs5 hk5=>?_;have hk5':=hk3.tr (hk4.newSt hb4 hk5);have hg5:Gr w5.heap bm g:=hg3.kp (hk4.newSt hb4 hk5) (by simp);have bad:bw' vars x = true -> bL' vars os = .error 1:=fun h=>by rw [hcl,hord',h]; rfl
  refine ld (hB5.cl rfl).cell ?_;refine ac' (fun c1=>?_) (fun c1=>?_)
  ·exact err 1 (bad (by unfold bw'; exact decide_eq_true (by omega))) _ hk5'
  refine ld (hB5.cl rfl).cell ?_;refine ac' (fun c2=>?_) (fun c2=>?_)
  ·exact err 1 (bad (by unfold bw'; exact decide_eq_true (by omega))) _ hk5'
  refine ld (hB5.cl rfl).cell ?_;refine ac' (fun c3=>?_) (fun c3=>?_)
  ·exact err 1 (bad (by unfold bw'; exact decide_eq_true (by omega))) _ hk5'
  refine ld (hB5.cl rfl).cell ?_;refine ac' (fun c4=>?_) (fun c4=>?_)
  ·exact err 1 (bad (by unfold bw'; exact decide_eq_true (by omega))) _ hk5'
  refine ld (hB5.cl rfl).cell ?_;refine ac' (fun c5=>?_) (fun c5=>?_)
  ·exact err 1 (bad (by unfold bw'; exact decide_eq_true (by omega))) _ hk5'
  refine ld (hB5.cl rfl).cell ?_;refine ac' (fun c6=>?_) (fun c6=>?_)
  ·exact err 1 (bad (by unfold bw'; exact decide_eq_true (by omega))) _ hk5'
  have ok:bw' vars x = false:=by unfold bw'; exact decide_eq_false (by omega)
  rw [ok] at hord';refine ld (hB5.cl rfl).cell ?_;refine ld (hB5.cl rfl).cell ?_;refine ld (hB5.cl rfl).cell ?_;refine ab' (mB' hg5 x.low x.high x.add) ?_;rintro e w6 ⟨rfl,hg6,hk6⟩;refine i6 ?_;exact ⟨(k + 1,cl' g x.low x.high x.add),by simp only; omega,rfl,⟨rfl,rfl,rfl,rfl,rfl,trivial⟩,by simp only; omega,hg6,hord',qY' hbd (by omega) (by omega),Kp.own hk5' hk6 hbw⟩
 have hord2:mv' vars os (ic' n) = some g:=by rw [hord,JY (by omega)]; rfl
 rw [hord2] at hcl;simp only at hcl
 clear hord hord2 h5 hk
 refine i6 ?_;refine loop τok (σ:=Nat × G) (fun x=>[(0,iV vars),(6,.map (some bm)),(88,iV (vars + 1)),(89,iV x.1)])
  (fun x w'=>x.1 <= n /\ Gr w'.heap bm x.2 /\ nL' n n 0 g = nL' n (n - x.1) x.1 x.2 /\ BdG (pw x.1) x.2 /\ Kp [] w w') (fun x=>n - x.1) (0,g) ⟨rfl,rfl,rfl,rfl,trivial⟩
  ⟨KV _,hg3,rfl,hbd,hk3⟩ ?_
 clear hg3 hbd hk3
 rintro ⟨m,g1⟩ w3 ⟨hm,hg3,hfw,hbd,hk3⟩;simp only at hm hg3 hfw hbd;refine ac' (fun h5=>?_) (fun h5=>?_)
 ·have hmn:m < n:=by omega
  obtain ⟨hp0,hp1⟩:=wo' m (by omega);have hJ:=oU' hp0 hbd m;refine i6 ?_;refine loop τok (σ:=Nat) (fun k=>[(0,iV vars),(6,.map (some bm)),(88,iV (vars + 1)),(89,iV m),(10,iV m),(93,iV (vars + 1)),(94,iV k)])
   (fun k w'=>k <= n /\ Gr w'.heap bm (rng (cn' n m) k g1) /\ Kp [] w w') (fun k=>n - k) 0 ⟨rfl,rfl,rfl,rfl,rfl,rfl,rfl,trivial⟩ ⟨KV _,hg3,hk3⟩ ?_
  rintro low w4 ⟨hlow,hg4,hk4⟩;refine ac' (fun h6=>?_) (fun h6=>?_)
  ·have hln:low < n:=by omega
   obtain ⟨g2,hg2⟩:∃ g2,g2 = rng (cn' n m) low g1:=⟨_,rfl⟩
   have hJ2:J (pw m) m low 0 g2:=hg2 ▸ sq' (n:=n) hJ low;rw [<- hg2] at hg4;refine i6 ?_;refine loop τok (σ:=Nat) (fun k=>[(0,iV vars),(6,.map (some bm)),(88,iV (vars + 1)),(89,iV m),(10,iV m),(93,iV (vars + 1)),(94,iV low),(11,iV low),(98,iV (vars + 1)),(99,iV k)])
    (fun k w'=>k <= n /\ Gr w'.heap bm (rng (Lv.step m low) k g2) /\ Kp [] w w') (fun k=>n - k) 0 ⟨rfl,rfl,rfl,rfl,rfl,rfl,rfl,rfl,rfl,rfl,trivial⟩ ⟨KV _,hg4,hk4⟩ ?_
   rintro high w5 ⟨hhigh,hg5,hk5⟩;refine ac' (fun h7=>?_) (fun h7=>?_)
   ·have hhn:high < n:=by omega
    obtain ⟨g3,hg3'⟩:∃ g3,g3 = rng (Lv.step m low) high g2:=⟨_,rfl⟩
    have hJ3:J (pw m) m low high g3:=hg3' ▸ uY' hJ2 high;rw [<- hg3'] at hg5;have hstep:rng (Lv.step m low) (high + 1) g2 = Lv.step m low high g3:=by rw [hg3']; rfl
    refine run (gQ' hg5 low m true) ?_;refine run (gQ' hg5 m high true) ?_;have none_step:(g3 low m = none \/ g3 m high = none) -> Lv.step m low high g3 = g3:=fun h=>by
     rcases step_cases m low high g3 with ⟨p,q,hp,hq,_⟩ | e
     ·rcases h with h | h
      ·rw [h] at hp; cases hp
      ·rw [h] at hq; cases hq
     ·exact e
    cases ha:g3 low m with
    | none =>
     refine i6 ?_;exact ⟨high + 1,by omega,rfl,⟨rfl,rfl,rfl,rfl,rfl,rfl,rfl,rfl,rfl,rfl,trivial⟩,by omega,by rw [hstep,none_step (.inl ha)]; exact hg5,hk5⟩
    | some p =>
     cases hb:g3 m high with
     | none =>
      refine i6 ?_;exact ⟨high + 1,by omega,rfl,⟨rfl,rfl,rfl,rfl,rfl,rfl,rfl,rfl,rfl,rfl,trivial⟩,by omega,by rw [hstep,none_step (.inr hb)]; exact hg5,hk5⟩
     | some q =>
      have hs:=wm' hJ3 ha hb;refine sO' (by simp only [Option.getD_some]; omega) (by simp only [Option.getD_some]; omega) ?_;refine ab' (mB' hg5 low high (p + q)) ?_;rintro e w6 ⟨rfl,hg6,hk6⟩;refine i6 ?_;exact ⟨high + 1,by omega,rfl,⟨rfl,rfl,rfl,rfl,rfl,rfl,rfl,rfl,rfl,rfl,trivial⟩,by omega,by rw [hstep,kh' ha hb]; exact hg6,Kp.own hk5 hk6 hbw⟩
   ·obtain rfl:high = n:=by omega
    refine i6 ?_;exact ⟨low + 1,by omega,rfl,⟨rfl,rfl,rfl,rfl,rfl,rfl,rfl,trivial⟩,by omega,by rw [hg2] at hg5; exact hg5,hk5⟩
  ·obtain rfl:low = n:=by omega
   have hg4':Gr w4.heap bm (pass low m g1):=hg4;have hbd':BdG (pw (m + 1)) (pass low m g1):=tr' hp0 hbd;obtain ⟨g2,hg2⟩:∃ g2,g2 = pass low m g1:=⟨_,rfl⟩
   rw [<- hg2] at hg4' hbd';have hfw':nL' low low 0 g = if cyc low g2 then none else nL' low (low - (m + 1)) (m + 1) g2:=by
    rw [hfw,show low - m = (low - (m + 1)) + 1 by omega,hg2]; rfl
   refine i6 ?_;refine loop τok (σ:=Nat) (fun k=>[(0,iV vars),(6,.map (some bm)),(88,iV (vars + 1)),(89,iV m),(133,iV (vars + 1)),(134,iV k)])
    (fun k w'=>k <= low /\ Gr w'.heap bm g2 /\ (∀ v,v < k -> uy' g2 v = false) /\ Kp [] w w') (fun k=>low - k) 0 ⟨rfl,rfl,rfl,rfl,rfl,rfl,trivial⟩ ⟨KV _,hg4',fun v hv=>by omega,hk4⟩ ?_
   rintro k w5 ⟨hk,hg5,hpos,hk5⟩;refine ac' (fun h7=>?_) (fun h7=>?_)
   ·refine run (gQ' hg5 k k false) ?_
    refine ac' (fun h8=>?_) (fun h8=>?_)
    ·have hcy:cyc low g2 = true:=by
      unfold cyc;rw [List.any_eq_true];exact ⟨k,List.mem_range.2 (by omega),by unfold uy'; exact decide_eq_true h8⟩
     exact err 7 (by rw [hcl,hfw',hcy]; rfl) _ hk5
    ·refine i6 ?_
     refine ⟨k + 1,by omega,rfl,⟨rfl,rfl,rfl,rfl,rfl,rfl,trivial⟩,by omega,hg5,fun v hv=>?_,hk5⟩
     by_cases e:v = k
     ·subst e; unfold uy'; exact decide_eq_false h8
     ·exact hpos v (by omega)
   ·obtain rfl:k = low:=by omega
    have hcy:cyc k g2 = false:=by
     unfold cyc;rw [List.any_eq_false];intro v hv;simp [hpos v (List.mem_range.1 hv)]
    rw [hcy] at hfw';refine i6 ?_;exact ⟨(m + 1,g2),by simp only; omega,rfl,⟨rfl,rfl,rfl,rfl,trivial⟩,by simp only; omega,hg5,hfw',hbd',hk5⟩
 ·obtain rfl:m = n:=by omega
  have:nL' m m 0 g = some g1:=by rw [hfw,Nat.sub_self]; rfl
  refine ⟨hk3,?_⟩;rw [hcl,this];exact ⟨bm,rfl,hg3,hbw⟩
def dz' (vars:Int):List Atom -> Int -> Bool
 | [],_=>true
 | x :: r,last=>if x.var <= last \/ vars < x.var \/ x.add < 0 \/ 1000 < x.add then false else dz' vars r x.var
def aT' (l:List Atom) (vars:Int):Bool :=
 if vars < 0 \/ 16 < vars \/ l.length < 1 \/ 4 < l.length then false else dz' vars l (-1)
theorem eZ' (l:List Atom) (a:Option Addr) (cap:Nat) (vars:Int) (w:World) {N:Nat} (hv:Atoms N w.heap a l) :
  CC 71 #[.slice a l.length cap,iV vars] w (fun e w'=>e = .returned (.bool (aT' l vars)) /\ Kp [] w w'):=by
 refine oF Tryz.func71 ?_;refine cO (args:=[_,_]) 53 [.tmp 4] τok Tryz.func71 ?_;have no:vars < 0 \/ 16 < vars \/ l.length < 1 \/ 4 < l.length -> aT' l vars = false:=fun h=>by unfold aT'; rw [if_pos h]
 refine ac' (fun h1=>?_) (fun h1=>?_)
 ·exact ⟨by rw [no (by omega)]; rfl,Kp.refl _ _⟩
 refine ac' (fun h2=>?_) (fun h2=>?_)
 ·exact ⟨by rw [no (by omega)]; rfl,Kp.refl _ _⟩
 refine ac' (fun h3=>?_) (fun h3=>?_)
 ·exact ⟨by rw [no (by omega)]; rfl,Kp.refl _ _⟩
 refine ac' (fun h4=>?_) (fun h4=>?_)
 ·exact ⟨by rw [no (by omega)]; rfl,Kp.refl _ _⟩
 rcases hv.1 with h0 | ⟨b,o,rfl,hb,hc⟩
 ·omega
 refine loop τok (σ:=Nat × Int) (fun x=>[(24,.slice (some ⟨b,o,none⟩) l.length cap),(25,iV l.length),(26,iV x.1),(5,iV x.2),(1,iV vars)])
  (fun x w'=>x.1 <= l.length /\ aT' l vars = dz' vars (l.drop x.1) x.2 /\ Kp [] w w') (fun x=>l.length - x.1) (0,-1) ⟨rfl,rfl,rfl,rfl,rfl,trivial⟩ ⟨KV _,?_,Kp.refl _ _⟩ ?_
 ·unfold aT'; rw [if_neg (by omega)]; rfl
 rintro ⟨k,last⟩ w1 ⟨hk,hr,hkp⟩;refine ac' (fun h5=>?_) (fun h5=>?_)
 ·have hlt:k < l.length:=by omega
  obtain ⟨x,hx⟩:∃ x,x = l.getD k default:=⟨_,rfl⟩
  rw [eY' l k hlt,<- hx] at hr;have hc0:=(hc k 0 hlt (by omega)).kp hkp (by simp);have hc1:=(hc k 1 hlt (by omega)).kp hkp (by simp);simp only [if_true,if_false,Nat.one_ne_zero,<- hx] at hc0 hc1;refine ix k rfl hlt ?_;refine ldN [iV x.var,iV x.add] rfl (at2 hc0 hc1) ?_;refine new fun b2 w2 hb2 hB2 hs2 hk2=>?_;refine stN hB2 rfl (by simp [Value.oneCell']) fun w3 hB3 hs3 hk3=>?_;have hkp3:=hkp.tr (hk2.newSt hb2 hk3);have bad:(x.var <= last \/ vars < x.var \/ x.add < 0 \/ 1000 < x.add) -> aT' l vars = false:=fun h=>by rw [hr]; simp only [dz']; rw [if_pos h]
  refine ld (hB3.cl rfl).cell ?_;refine ac' (fun c1=>?_) (fun c1=>?_)
  ·exact ⟨by rw [bad (by omega)]; rfl,hkp3⟩
  refine ld (hB3.cl rfl).cell ?_;refine ac' (fun c2=>?_) (fun c2=>?_)
  ·exact ⟨by rw [bad (by omega)]; rfl,hkp3⟩
  refine ld (hB3.cl rfl).cell ?_;refine ac' (fun c3=>?_) (fun c3=>?_)
  ·exact ⟨by rw [bad (by omega)]; rfl,hkp3⟩
  refine ld (hB3.cl rfl).cell ?_;refine ac' (fun c4=>?_) (fun c4=>?_)
  ·exact ⟨by rw [bad (by omega)]; rfl,hkp3⟩
  refine ld (hB3.cl rfl).cell ?_;refine i6 ?_;refine ⟨(k + 1,x.var),by simp only; omega,rfl,⟨rfl,rfl,rfl,rfl,rfl,trivial⟩,hlt,?_,hkp3⟩;rw [hr]; simp only [dz']; rw [if_neg (by omega)]
 ·refine ⟨?_,hkp⟩
  rw [hr,JY (by omega)]
  rfl
def ra' (p:Atom -> Bool):List Atom -> Int -> Int
 | [],_=>-1
 | x :: r,i=>if p x then i else ra' p r (i + 1)
theorem oV' (p:Atom -> Bool):∀ (l:List Atom) (i:Int),0 <= i -> (decide (0 <= ra' p l i) = l.any p)
 | [],i,_=>by simp [ra']
 | x :: r,i,h=>by
  simp only [ra',List.any_cons]
  by_cases hp:p x = true
  ·simp [hp,h]
  ·simp [hp,oV' p r (i + 1) (by omega)]
def wp' (f:FuncId) (captured:Array Value) (w:World) (p:Atom -> Bool) (x:Atom):Prop :=
 di' Tryz.prog f /\ Calls Tryz.prog f (#[] ++ [Value.agg [iV x.var,iV x.add].toArray].toArray ++ captured) w (fun e w'=>e = .returned (.bool (p x)) /\ Kp [] w w')
theorem rb' (l:List Atom) (a:Option Addr) (cap:Nat) (f:FuncId) (captured:Array Value) (p:Atom -> Bool) (w:World) (hl:l.length < 1000000) {N:Nat} (hv:Atoms N w.heap a l) (hf:∀ x ∈ l,∀ w',Kp [] w w' -> wp' f captured w' p x) :
  CC 167 #[.slice a l.length cap,.func (.func f) #[] captured] w (fun e w'=>e = .returned (iV (ra' p l 0)) /\ Kp [] w w'):=by
 refine oF Tryz.func167 ?_;refine cO (args:=[_,_]) 19 [.tmp 4] τok Tryz.func167 ?_;refine loop τok (σ:=Nat) (fun k=>[(0,.slice a l.length cap),(1,.func (.func f) #[] captured),(7,iV l.length),(8,iV k)])
  (fun k w'=>k <= l.length /\ ra' p l 0 = ra' p (l.drop k) k /\ Kp [] w w') (fun k=>l.length - k) 0 ⟨rfl,rfl,rfl,rfl,trivial⟩ ⟨KV _,rfl,Kp.refl _ _⟩ ?_
 rintro k w1 ⟨hk,hr,hkp⟩;refine ac' (fun h5=>?_) (fun h5=>?_)
 ·have hlt:k < l.length:=by omega
  obtain ⟨x,hx⟩:∃ x,x = l.getD k default:=⟨_,rfl⟩
  rw [eY' l k hlt,<- hx] at hr;rcases hv.1 with h0 | ⟨b,o,rfl,hb,hc⟩
  ·omega
  have hc0:=(hc k 0 hlt (by omega)).kp hkp (by simp);have hc1:=(hc k 1 hlt (by omega)).kp hkp (by simp);simp only [if_true,if_false,Nat.one_ne_zero,<- hx] at hc0 hc1;refine ix k rfl hlt ?_;refine ldN [iV x.var,iV x.add] rfl (at2 hc0 hc1) ?_;refine ab' (hf x (hx ▸ mA' l k hlt) w1 hkp) ?_;rintro e w2 ⟨rfl,hk2⟩;refine br (fun c=>?_) (fun c=>?_)
  ·exact ⟨by rw [hr]; simp only [ra']; rw [if_pos c]; rfl,hkp.tr hk2⟩
  ·refine i6 ?_
   refine ⟨k + 1,by omega,rfl,⟨rfl,rfl,rfl,rfl,trivial⟩,hlt,?_,hkp.tr hk2⟩;rw [hr]; simp only [ra']; rw [if_neg (by simp [c])]; rfl
 ·refine ⟨?_,hkp⟩
  rw [hr,JY (by omega)]
  rfl
theorem lu' (l:List Atom) (a:Option Addr) (cap:Nat) (f:FuncId) (captured:Array Value) (p:Atom -> Bool) (w:World) (hl:l.length < 1000000) {N:Nat} (hv:Atoms N w.heap a l) (hf:∀ x ∈ l,∀ w',Kp [] w w' -> wp' f captured w' p x) :
  CC 165 #[.slice a l.length cap,.func (.func f) #[] captured] w (fun e w'=>e = .returned (.bool (l.any p)) /\ Kp [] w w'):=by
 refine oF Tryz.func165 ?_;refine cO (args:=[_,_]) 9 [.tmp 4] τok Tryz.func165 ?_;refine ab' (rb' l a cap f captured p w hl hv hf) ?_;rintro e w1 ⟨rfl,hk1⟩;exact ⟨by rw [<- oV' p l 0 (by omega)]; rfl,hk1⟩
def fa' (g:G) (x y:Atom):Bool:=match g x.var y.var with
 | none=>false
 | some d=>decide (x.add - y.add <= d)
theorem oW' {w:World} {bg bm bx:Nat} {g:G} (x y:Atom) (h0:Cl w.heap bg 0 (.map (some bm))) (hg:Gr w.heap bm g) (h1:Cl w.heap bx 0 (iV x.var)) (h2:Cl w.heap bx 1 (iV x.add))
  (hx:0 <= x.add /\ x.add <= 1000) (hy:0 <= y.add /\ y.add <= 1000):wp' 166 #[.pointer (some ⟨bg,0,none⟩),.pointer (some ⟨bx,0,none⟩)] w (fa' g x) y:=by
 refine oF Tryz.func166 ?_;refine cO (args:=[_,_,_]) 27 [.tmp 4] τok Tryz.func166 ?_;refine new fun b1 w1 hb1 hB1 hs1 hk1=>?_;refine ld (h0.kp hk1 (by simp)).cell ?_;refine ld (h1.kp hk1 (by simp)).cell ?_;refine ld (hB1.cl rfl).cell ?_;refine run (gQ' (hg.kp hk1 (by simp)) x.var y.var true) ?_;unfold fa';cases hgo:g x.var y.var with
 | none=>exact ⟨rfl,hk1⟩
 | some d =>
  refine ld (h2.kp hk1 (by simp)).cell ?_;refine ld (hB1.cl rfl).cell ?_;refine i6 ?_;exact ⟨rfl,hk1⟩
def fP' (vars:Int) (os:List aU') (a b:List Atom):Bool:=match bL' vars os with
 | .error _=>false
 | .ok g=>aT' a vars && aT' b vars && a.all fun x=>b.any (fa' g x)
theorem bD' {l:List Atom} {vars:Int} (h:aT' l vars = true):l.length <= 4 /\ ∀ x ∈ l,0 <= x.add /\ x.add <= 1000 /\ 0 <= x.var /\ x.var <= vars:=by
 unfold aT' at h;split at h
 ·cases h
 ·rename_i hc
  refine ⟨by omega,?_⟩;have gen:∀ (l:List Atom) (last:Int),-1 <= last -> dz' vars l last = true -> ∀ x ∈ l,0 <= x.add /\ x.add <= 1000 /\ 0 <= x.var /\ x.var <= vars:=by
   intro l
   induction l with
   | nil=>intro _ _ _ x hx; cases hx
   | cons y r ih =>
    intro last hl h x hx;simp only [dz'] at h;split at h
    ·cases h
    ·rename_i hc
     rcases List.mem_cons.1 hx with rfl | hx
     ·omega
     ·exact ih y.var (by omega) h x hx
  exact gen l (-1) (by omega) h
theorem mC' (vars:Int) (os:List aU') (la lb:List Atom) (ao aa ab:Option Addr) (co ca cb:Nat) (w:World) (ho:kl' w.heap.size w.heap ao os) (ha:Atoms w.heap.size w.heap aa la) (hb:Atoms w.heap.size w.heap ab lb) :
  CC 160 #[iV vars,.slice ao os.length co,.slice aa la.length ca,.slice ab lb.length cb] w (fun e w'=>e = .returned (.bool (fP' vars os la lb)) /\ Kp [] w w'):=by
 refine oF Tryz.func160 ?_;refine cO (args:=[_,_,_,_]) 44 [.tmp 8] τok Tryz.func160 ?_;refine ab' (km' vars os ao co w ho) ?_;rintro e w1 ⟨hk1,hcl⟩;cases hc:bL' vars os with
 | error n =>
  rw [hc] at hcl;simp only at hcl;subst hcl;have hn:n ≠ 0:=by
   rcases closedF_err hc with ⟨_,h⟩ | ⟨_,_,h⟩ | ⟨_,_,_,h⟩ | ⟨_,_,_,h,_⟩ <;> omega
  refine new fun b2 w2 hb2 hB2 hs2 hk2=>?_;refine st hB2 (by decide) rfl fun w3 hB3 hs3 hk3=>?_;refine au' hn ?_;exact ⟨by unfold fP'; rw [hc]; rfl,hk1.tr (hk2.newSt hb2 hk3)⟩
 | ok g =>
  rw [hc] at hcl;obtain ⟨bm,rfl,hg,hbm⟩:=hcl;have hu:fP' vars os la lb = (aT' la vars && aT' lb vars && la.all fun x=>lb.any (fa' g x)):=by unfold fP'; rw [hc]
  refine new fun b2 w2 hb2 hB2 hs2 hk2=>?_;refine st hB2 (by decide) rfl fun w3 hB3 hs3 hk3=>?_;have hk3':=hk2.newSt hb2 hk3;have hk13:=hk1.tr hk3';have hg3:Gr w3.heap bm g:=hg.kp hk3' (by simp);refine ab' (eZ' la aa ca vars w3 (ha.kp hk13 (KJ _))) ?_;rintro e w4 ⟨rfl,hk4⟩;refine br (fun c1=>?_) (fun c1=>?_)
  ·have c1':aT' la vars = false:=by simpa using c1
   exact ⟨by rw [hu,c1']; rfl,hk13.tr hk4⟩
  have c1':aT' la vars = true:=by simpa using c1
  have hk14:=hk13.tr hk4;refine ab' (eZ' lb ab cb vars w4 (hb.kp hk14 (KJ _))) ?_;rintro e w5 ⟨rfl,hk5⟩;refine br (fun c2=>?_) (fun c2=>?_)
  ·have c2':aT' lb vars = false:=by simpa using c2
   exact ⟨by rw [hu,c1',c2']; rfl,hk14.tr hk5⟩
  have c2':aT' lb vars = true:=by simpa using c2
  have hk15:=hk14.tr hk5;obtain ⟨la4,hadda⟩:=bD' c1';obtain ⟨lb4,haddb⟩:=bD' c2';have hk35:=hk4.tr hk5;refine loop τok (σ:=Nat) (fun k=>[(3,.slice ab lb.length cb),(9,.pointer (some ⟨b2,0,none⟩)),(33,.slice aa la.length ca),(34,iV la.length),(35,iV k)])
   (fun k w'=>k <= la.length /\ (la.all fun x=>lb.any (fa' g x)) = ((la.drop k).all fun x=>lb.any (fa' g x)) /\ Kp [] w5 w') (fun k=>la.length - k) 0 ⟨rfl,rfl,rfl,rfl,rfl,trivial⟩ ⟨KV _,rfl,Kp.refl _ _⟩ ?_
  rintro k w6 ⟨hk,hr,hk6⟩;refine ac' (fun h5=>?_) (fun h5=>?_)
  ·have hlt:k < la.length:=by omega
   obtain ⟨x,hx⟩:∃ x,x = la.getD k default:=⟨_,rfl⟩
   rw [eY' la k hlt,<- hx] at hr;rcases ha.1 with h0 | ⟨b,o,rfl,hb',hcc⟩
   ·omega
   have hk16:=hk15.tr hk6;have hc0:=(hcc k 0 hlt (by omega)).kp hk16 (by simp);have hc1:=(hcc k 1 hlt (by omega)).kp hk16 (by simp);simp only [if_true,if_false,Nat.one_ne_zero,<- hx] at hc0 hc1;refine ix k rfl hlt ?_;refine ldN [iV x.var,iV x.add] rfl (at2 hc0 hc1) ?_;refine new fun b7 w7 hb7 hB7 hs7 hk7=>?_;refine stN hB7 rfl (by simp [Value.oneCell']) fun w8 hB8 hs8 hk8=>?_;have hk68:=hk7.newSt hb7 hk8;have hk38:=(hk35.tr hk6).tr hk68;have hxm:x ∈ la:=hx ▸ mA' la k hlt;refine ab' (lu' lb ab cb 166 _ (fa' g x) w8 (by omega) (hb.kp (hk16.tr hk68) (KJ _)) (fun y hy w' hkw=>?_)) ?_
   ·exact oW' x y ((hB3.cl rfl).kp (hk38.tr hkw) (by simp)) (hg3.kp (hk38.tr hkw) (by simp)) ((hB8.cl rfl).kp hkw (by simp)) ((hB8.cl rfl).kp hkw (by simp)) ⟨(hadda x hxm).1,(hadda x hxm).2.1⟩ ⟨(haddb y hy).1,(haddb y hy).2.1⟩
   rintro e w9 ⟨rfl,hk9⟩;refine br (fun c=>?_) (fun c=>?_)
   ·have c':lb.any (fa' g x) = false:=by simpa using c
    refine ⟨?_,(hk16.tr hk68).tr hk9⟩;rw [hu,c1',c2',hr];simp only [List.all_cons,c']
    rfl
   ·have c':lb.any (fa' g x) = true:=by simpa using c
    refine i6 ?_;refine ⟨k + 1,by omega,rfl,⟨rfl,rfl,rfl,rfl,rfl,trivial⟩,hlt,?_,(hk6.tr hk68).tr hk9⟩;rw [hr];simp only [List.all_cons,c',Bool.true_and]
  ·refine ⟨?_,hk15.tr hk6⟩
   rw [hu,c1',c2',hr,JY (by omega)]
   rfl
def gR' (vars:Int) (os:List aU'):Int:=match bL' vars os with
 | .error n=>n
 | .ok _=>0
theorem rd' (vars:Int) (os:List aU') (ao:Option Addr) (co:Nat) (w:World) (ho:kl' w.heap.size w.heap ao os) :
  CC 18 #[iV vars,.slice ao os.length co] w (fun e w'=>e = .returned (iV (gR' vars os)) /\ Kp [] w w'):=by
 refine oF Tryz.func18 ?_;refine cO (args:=[_,_]) 14 [.tmp 4] τok Tryz.func18 ?_;refine ab' (km' vars os ao co w ho) ?_;rintro e w1 ⟨hk1,hcl⟩;unfold gR';cases hc:bL' vars os with
 | error n=>rw [hc] at hcl; simp only at hcl; subst hcl; exact ⟨rfl,hk1⟩
 | ok g=>rw [hc] at hcl; obtain ⟨bm,rfl,hg,hbm⟩:=hcl; exact ⟨rfl,hk1⟩
end Go.Proofs.YtpealcfjbcpoiaaGreat
namespace Go.Proofs.YtpealcfjbcpoiaaGreat
open Go.Wx Cd Tm
def Im (X:List Nat) (w:World):Mem:=fun b o v=>Cl w.heap b o v /\ b ∉ X
section
variable {X Y:List Nat} {w w':World}
theorem Im.sub (X:List Nat) (w:World):Sub (Im X w) w:=fun _ _ _ h=>h.1
theorem Im.hold {b o:Nat} {v:Value} (h:Im X w b o v):b < w.heap.size:=h.1.lt
theorem Im.kp (k:Kp Y w w') (hY:∀ y ∈ Y,y < w.heap.size -> y ∈ X) {b o:Nat} {v:Value} (h:Im X w b o v):Im X w' b o v :=
 ⟨h.1.kp k fun hb=>h.2 (hY b hb h.1.lt),h.2⟩
theorem Im.tr (k:Kp [] w w') {b o:Nat} {v:Value} (h:Im X w b o v):Im X w' b o v:=h.kp k (fun y hy=>by cases hy)
theorem Im.of_new (hX:∀ x ∈ X,x < w.heap.size) {b o:Nat} {v:Value} (h:New w.heap.size w' b o v):Im X w' b o v:=⟨h.2.cl,fun hb=>by have:=hX b hb; have:=h.1; omega⟩
theorem Im.more (hY:∀ y ∈ Y,y ∈ X \/ w.heap.size <= y) {b o:Nat} {v:Value} (h:Im X w b o v):Im Y w b o v :=
 ⟨h.1,fun hb=>(hY b hb).elim h.2 fun hl=>by have:=h.1.lt; omega⟩
theorem Im.less (hY:∀ y ∈ Y,y ∈ X) {b o:Nat} {v:Value} (h:Im X w b o v):Im Y w b o v:=⟨h.1,fun hb=>h.2 (hY b hb)⟩
end
def TmV (C:Mem) (x:Tr) (v:Value):Prop:=∃ a c,v = .slice a (row x).length c /\ Sl rNd C a (row x) /\ (row x).length <= c
def TmsV (C:Mem) (ys:List Tr) (v:Value):Prop:=∃ a c,v = .slice a ys.length c /\ Sl (rSk rNd) C a (ys.map row) /\ ys.length <= c
section
variable {C D:Mem} {x:Tr} {ys:List Tr} {v:Value}
theorem TmV.mono (h:TmV C x v) (hc:∀ b o v,C b o v -> D b o v):TmV D x v:=by
 obtain ⟨a,c,h1,h2,h3⟩:=h;exact ⟨a,c,h1,h2.mono hc,h3⟩
theorem TmsV.mono (h:TmsV C ys v) (hc:∀ b o v,C b o v -> D b o v):TmsV D ys v:=by
 obtain ⟨a,c,h1,h2,h3⟩:=h;exact ⟨a,c,h1,h2.mono hc,h3⟩
theorem TmsV.get (h:TmsV C ys v) {i:Nat} {y:Tr} (hi:ys[i]? = some y):∃ b o c,v = .slice (some ⟨b,o,none⟩) ys.length c /\ ∃ u,C b (o + i * 1) u /\ TmV C y u:=by
 obtain ⟨a,c,rfl,h2,h3⟩:=h;obtain ⟨b,o,rfl,a',c',h4,h5,h6⟩:=h2.sk (i:=i) (x:=row y) (by rw [JX,hi]; rfl);exact ⟨b,o,c,rfl,_,h4,a',c',rfl,h6,h5⟩
theorem TmV.nd (h:TmV C x v) {i:Nat} {n:Nd} (hi:(row x)[i]? = some n):∃ b o c,v = .slice (some ⟨b,o,none⟩) (row x).length c /\ I64 n.op /\ I64 n.a /\ I64 n.b /\
  ∀ j u,[iV n.op,iV n.a,iV n.b][j]? = some u -> C b (o + i * 3 + j) u:=by
 obtain ⟨a,c,rfl,h2,h3⟩:=h;obtain ⟨b,o,rfl,h4⟩:=ft' h2 hi;exact ⟨b,o,c,rfl,h4⟩
end
section
variable {X:List Nat} {w w':World} {x:Tr} {ys:List Tr} {v:Value}
theorem IsTm.tv (h:IsTm x w w' v) (hX:∀ x ∈ X,x < w.heap.size):TmV (Im X w') x v:=TmV.mono h fun _ _ _ h=>Im.of_new hX h
theorem IsTms.tv (h:IsTms ys w w' v) (hX:∀ x ∈ X,x < w.heap.size):TmsV (Im X w') ys v:=TmsV.mono h fun _ _ _ h=>Im.of_new hX h
end
section
variable {C:Mem} {w:World} {Q:Nd -> Prop} {N:Int}
theorem dG' (hS:Sub C w) (hold:∀ b o v,C b o v -> b < w.heap.size) {x:Tr} (hx:Ft Q N x) (hN:N <= 100000) {v:Value} (hv:TmV C x v) {b:Int} (hb:0 <= b /\ b <= 500000) :
  CC 7 #[v,iV b,iV 0] w (fun e w'=>∃ u,e = .returned (.tuple #[u,iV 0]) /\ IsTm (aq' x b 0) w w' u /\ Kp [] w w'):=by
 obtain ⟨a,c,rfl,h2,h3⟩:=hv;obtain ⟨q1,q2⟩:=qN' x hx.ok (hx.small hN) a c h2 h3 hx.len w hS hold b 0 hb (by omega);exact ⟨q1,q2.mono fun e w' h=>by
  obtain ⟨⟨v,rfl,hv⟩,hk⟩:=h;exact ⟨v,rfl,hv,hk⟩⟩
theorem je' (hS:Sub C w) (hold:∀ b o v,C b o v -> b < w.heap.size) {x u:Tr} {v:Int} (hx:Ft Q (N + 1 + v) x) (hu:Ft Q N u) (hN:N <= 100000) {vx vu:Value} (hvx:TmV C x vx) (hvu:TmV C u vu) (hv:0 <= v /\ v <= 300000) :
  CC 63 #[vx,vu,iV v] w (fun e w'=>(if mm' x u v = true then e = .returned (.tuple #[.slice none 0 0,iV 9]) else ∃ z,e = .returned (.tuple #[z,iV 0]) /\ IsTm (bf' x u v) w w' z) /\ Kp [] w w'):=by
 obtain ⟨a,c,rfl,h2,h3⟩:=hvx;obtain ⟨a',c',rfl,h2',h3'⟩:=hvu;exact oF' x u hx.ok hu.ok (hu.small hN) a a' c c' h2 h2' h3 h3' hx.len hu.len w hS hold v hv
theorem dU' (hS:Sub C w) (hold:∀ b o v,C b o v -> b < w.heap.size) {x:Tr} (hx:Ft Q N x) {v:Value} (hv:TmV C x v) :
  CC 56 #[v] w (fun e w'=>∃ u,e = .returned u /\ IsTms (kidsT x) w w' u /\ Kp [] w w'):=by
 obtain ⟨a,c,rfl,h2,h3⟩:=hv;obtain ⟨q1,q2⟩:=oG' hS hold x hx.ok a c h2 h3 hx.len;exact ⟨q1,q2.mono fun e w' h=>by
  obtain ⟨⟨v,rfl,hv⟩,hk⟩:=h;exact ⟨v,rfl,hv,hk⟩⟩
theorem jf' (hS:Sub C w) (hold:∀ b o v,C b o v -> b < w.heap.size) {x:Tr} (hx:Ft Q N x) {v:Value} (hv:TmV C x v) :
  CC 82 #[v] w (fun e w'=>∃ u z,e = .returned (.tuple #[u,z]) /\ IsTm (headT x) w w' u /\ IsTms (argsT x) w w' z /\ Kp [] w w'):=by
 obtain ⟨a,c,rfl,h2,h3⟩:=hv;obtain ⟨q1,q2⟩:=oI' hS hold x hx.ok a c h2 h3 hx.len;exact ⟨q1,q2.mono fun e w' h=>by
  obtain ⟨⟨v,u,rfl,hv,hu⟩,hk⟩:=h;exact ⟨v,u,rfl,hv,hu,hk⟩⟩
theorem lv' (hS:Sub C w) {x:Tr} {ys:List Tr} (hx:Ft Q N x) (hy:∀ y ∈ ys,Ft Q N y) (hn:ys.length <= 100000) {v u:Value} (hv:TmV C x v) (hu:TmsV C ys u) :
  CC 73 #[v,u] w (fun e w'=>(if 4096 < (row (aj' x ys)).length then e = .returned (.tuple #[.slice none 0 0,iV 9]) else ∃ z,e = .returned (.tuple #[z,iV 0]) /\ IsTm (aj' x ys) w w' z) /\ Kp [] w w'):=by
 obtain ⟨a,c,rfl,h2,h3⟩:=hv;obtain ⟨a',c',rfl,h2',h3'⟩:=hu;exact oJ' hS x ys hx.ok (fun y h=>⟨(hy y h).ok,(hy y h).len⟩) hn a a' c c' h2 h3 hx.len h2'
theorem uZ' (hS:Sub C w) {op:Int} (ho:op = 4 \/ op = 5) {x:Tr} {ys:List Tr} (hx:Ok .tm x) (hl:(row x).length <= 4096) (hy:∀ y ∈ ys,Ok .tm y /\ (row y).length <= 4096) (hn:ys.length <= 100000) {v u:Value} (hv:TmV C x v) (hu:TmsV C ys u) :
  CC 60 #[iV op,u,v] w (fun e w'=>(if 4096 < (row (bW' op ys x)).length then e = .returned (.tuple #[.slice none 0 0,iV 9]) else ∃ z,e = .returned (.tuple #[z,iV 0]) /\ IsTm (bW' op ys x) w w' z) /\ Kp [] w w'):=by
 obtain ⟨a,c,rfl,h2,h3⟩:=hv;obtain ⟨a',c',rfl,h2',h3'⟩:=hu;exact qR' hS op ho ys x hx hy hn a a' c c' h2 hl h2'
end
open Go.Wx Cd Tm Lv
structure CtT where
 args:List (List Nd)
 out:List (List Nd)
deriving Inhabited
structure EnT where
 kind:Int
 sort:List Nd
 params:List (List Nd)
 indices:List (List Nd)
 ctors:List CtT
 type:List Nd
 body:List Nd
deriving Inhabited
structure BoT where
 vars:Int
 orders:List aU'
 ents:List EnT
 nat:Int
 prims:List (Int × Int)
def rOr:Rd aU' where
 sz:=3
 den _ cs x:=cs = [iV x.low,iV x.add,iV x.high] /\ I64 x.low /\ I64 x.add /\ I64 x.high
 len:=by rintro _ cs x ⟨rfl,_⟩; rfl
 mono:=by rintro _ _ cs x _ h; exact h
 one:=by rintro _ cs x ⟨rfl,_⟩ u hu; simp at hu; rcases hu with rfl | rfl | rfl <;> rfl
def rPr:Rd (Int × Int) where
 sz:=2
 den _ cs x:=cs = [iV x.1,iV x.2] /\ I64 x.1 /\ I64 x.2
 len:=by rintro _ cs x ⟨rfl,_⟩; rfl
 mono:=by rintro _ _ cs x _ h; exact h
 one:=by rintro _ cs x ⟨rfl,_⟩ u hu; simp at hu; rcases hu with rfl | rfl <;> rfl
def SV {α:Type} (R:Rd α) (C:Mem) (l:List α) (v:Value):Prop:=∃ a c,v = .slice a l.length c /\ Sl R C a l /\ l.length <= c
theorem SV.mono {α:Type} {R:Rd α} {C D:Mem} {l:List α} {v:Value} (h:SV R C l v) (hc:∀ b o v,C b o v -> D b o v):SV R D l v:=by
 obtain ⟨a,c,h1,h2,h3⟩:=h;exact ⟨a,c,h1,h2.mono hc,h3⟩
theorem SV.one {α:Type} {R:Rd α} {C:Mem} {l:List α} {v:Value} (h:SV R C l v):v.oneCell' = true:=by
 obtain ⟨a,c,rfl,_⟩:=h
 rfl
theorem TmV.sv {C:Mem} {x:Tr} {v:Value}:TmV C x v ↔ SV rNd C (row x) v:=Iff.rfl
theorem TmsV.sv {C:Mem} {ys:List Tr} {v:Value}:TmsV C ys v ↔ SV (rSk rNd) C (ys.map row) v:=by
 unfold TmsV SV;simp
def rCt:Rd CtT where
 sz:=2
 den C cs x:=∃ v u,cs = [v,u] /\ SV (rSk rNd) C x.args v /\ SV (rSk rNd) C x.out u
 len:=by rintro C cs x ⟨v,u,rfl,_⟩; rfl
 mono:=by rintro C C' cs x hc ⟨v,u,rfl,h1,h2⟩; exact ⟨v,u,rfl,h1.mono hc,h2.mono hc⟩
 one:=by rintro C cs x ⟨v,u,rfl,h1,h2⟩ z hz; simp at hz; rcases hz with rfl | rfl; exact h1.one; exact h2.one
def rEn:Rd EnT where
 sz:=7
 den C cs x:=∃ v1 v2 v3 v4 v5 v6,cs = [iV x.kind,v1,v2,v3,v4,v5,v6] /\ I64 x.kind /\ SV rNd C x.sort v1 /\ SV (rSk rNd) C x.params v2 /\ SV (rSk rNd) C x.indices v3 /\ SV rCt C x.ctors v4 /\ SV rNd C x.type v5 /\ SV rNd C x.body v6
 len:=by rintro C cs x ⟨v1,v2,v3,v4,v5,v6,rfl,_⟩; rfl
 mono:=by rintro C C' cs x hc ⟨v1,v2,v3,v4,v5,v6,rfl,h0,h1,h2,h3,h4,h5,h6⟩; exact ⟨v1,v2,v3,v4,v5,v6,rfl,h0,h1.mono hc,h2.mono hc,h3.mono hc,h4.mono hc,h5.mono hc,h6.mono hc⟩
 one:=by
  rintro C cs x ⟨v1,v2,v3,v4,v5,v6,rfl,h0,h1,h2,h3,h4,h5,h6⟩ z hz;simp at hz;rcases hz with rfl | rfl | rfl | rfl | rfl | rfl | rfl
  ·rfl
  ·exact h1.one
  ·exact h2.one
  ·exact h3.one
  ·exact h4.one
  ·exact h5.one
  ·exact h6.one
def rBo:Rd BoT where
 sz:=5
 den C cs x:=∃ v1 v2 v3,cs = [iV x.vars,v1,v2,iV x.nat,v3] /\ I64 x.vars /\ I64 x.nat /\ SV rOr C x.orders v1 /\ SV rEn C x.ents v2 /\ SV rPr C x.prims v3
 len:=by rintro C cs x ⟨v1,v2,v3,rfl,_⟩; rfl
 mono:=by rintro C C' cs x hc ⟨v1,v2,v3,rfl,h0,h1,h2,h3,h4⟩; exact ⟨v1,v2,v3,rfl,h0,h1,h2.mono hc,h3.mono hc,h4.mono hc⟩
 one:=by
  rintro C cs x ⟨v1,v2,v3,rfl,h0,h1,h2,h3,h4⟩ z hz;simp at hz;rcases hz with rfl | rfl | rfl | rfl | rfl
  ·rfl
  ·exact h2.one
  ·exact h3.one
  ·rfl
  ·exact h4.one
def rBd:Rd (List Nd × List Nd) where
 sz:=2
 den C cs x:=∃ v u,cs = [v,u] /\ SV rNd C x.1 v /\ SV rNd C x.2 u
 len:=by rintro C cs x ⟨v,u,rfl,_⟩; rfl
 mono:=by rintro C C' cs x hc ⟨v,u,rfl,h1,h2⟩; exact ⟨v,u,rfl,h1.mono hc,h2.mono hc⟩
 one:=by rintro C cs x ⟨v,u,rfl,h1,h2⟩ z hz; simp at hz; rcases hz with rfl | rfl; exact h1.one; exact h2.one
section
variable {α:Type} {R:Rd α} {C:Mem} {l:List α} {v:Value}
theorem SV.at (h:SV R C l v) {i:Nat} {x:α} (hi:l[i]? = some x):∃ b o c,v = .slice (some ⟨b,o,none⟩) l.length c /\ R.At C b (o + i * R.sz) x:=by
 obtain ⟨a,c,rfl,h2,h3⟩:=h;obtain ⟨b,o,rfl,hc⟩:=h2.at (ai' hi)
 exact ⟨b,o,c,rfl,hc i x hi⟩
theorem SV.nil (R:Rd α) (C:Mem):SV R C [] (.slice none 0 0):=⟨none,0,rfl,Sl.nil _ _ _,KJ _⟩
end
section
variable {C:Mem} {b o:Nat}
theorem eB' {x:EnT} (h:rEn.At C b o x):∃ v1 v2 v3 v4 v5 v6,(∀ j v,[iV x.kind,v1,v2,v3,v4,v5,v6][j]? = some v -> C b (o + j) v) /\ I64 x.kind /\ SV rNd C x.sort v1 /\ SV (rSk rNd) C x.params v2 /\ SV (rSk rNd) C x.indices v3 /\ SV rCt C x.ctors v4 /\ SV rNd C x.type v5 /\ SV rNd C x.body v6:=by
 obtain ⟨cs,⟨v1,v2,v3,v4,v5,v6,rfl,h⟩,hc⟩:=h;exact ⟨v1,v2,v3,v4,v5,v6,hc,h⟩
theorem jg' {x:CtT} (h:rCt.At C b o x):∃ v u,(∀ j z,[v,u][j]? = some z -> C b (o + j) z) /\ SV (rSk rNd) C x.args v /\ SV (rSk rNd) C x.out u:=by
 obtain ⟨cs,⟨v,u,rfl,h⟩,hc⟩:=h;exact ⟨v,u,hc,h⟩
theorem oX' {x:List Nd × List Nd} (h:rBd.At C b o x):∃ v u,(∀ j z,[v,u][j]? = some z -> C b (o + j) z) /\ SV rNd C x.1 v /\ SV rNd C x.2 u:=by
 obtain ⟨cs,⟨v,u,rfl,h⟩,hc⟩:=h;exact ⟨v,u,hc,h⟩
end
end Go.Proofs.YtpealcfjbcpoiaaGreat
