import Derived.Test.YtpealcfjbcpoiaaGreatMl11
import Derived.Laws.StructEq
import Derived.ArgAppend
set_option linter.unusedVariables false
set_option linter.unusedSimpArgs false
set_option maxRecDepth 100000
set_option maxHeartbeats 4000000
namespace Go.Proofs.YtpealcfjbcpoiaaGreat
open Go.Wx Lv
theorem rr' {C:Mem} {w:World} (hS:Sub C w) (l:List Atom) (a:Option Addr) (cap:Nat) (hl:Sl rAt C a l) (hll:l.length <= 1000) :
  CC 72 #[.slice a l.length cap] w (fun e w'=>∃ v,e = .returned v /\ Own rAt 135 w.heap.size w' v l /\ Kp [] w w'):=by
 refine oF Tryz.func72 ?_;refine cO (args:=[_]) 8 [.tmp 2] τok Tryz.func72 ?_;refine od' τok rfl ?_;refine br (fun g=>?_) (fun g=>?_)
 ·have h0:l = []:=by
   rcases hl.2 with h0 | ⟨b,o,rfl,_⟩
   ·exact List.length_eq_zero_iff.1 h0
   ·simp at g
  subst h0;exact ⟨_,rfl,Own.nil _ _ (KJ _),Kp.refl _ _⟩
 ·refine fill [] rfl ?_
  refine new fun b1 w1 hb1 hB1 hs1 hk1=>?_;have hO:Own rAt 135 w.heap.size w1 (.slice (some ⟨b1,0,none⟩) 0 0) []:=Own.empty _ hB1 (by omega);refine hO.apF τok rfl rfl (by decide) ss' (hS.tr hk1) l hl (by simp; omega) (by simp [maxLen]; omega) fun v w2 hO2 hk2 _=>?_;exact ⟨v,rfl,by simpa using hO2,hk1.own hk2 hO⟩
def upE (a:List Atom) (by':Int):Int:=if aT' a 16 = false then 19 else if by' < 0 then 1 else if a.any (fun x=>decide (1000 < x.add + by')) then 6 else 0
def upL (a:List Atom) (by':Int):List Atom:=a.map fun x=>⟨x.var,x.add + by'⟩
def upR (a:List Atom) (by':Int):List Atom:=if upE a by' = 0 then upL a by' else []
theorem wr' {C:Mem} {w:World} (hS:Sub C w) (a:List Atom) (by':Int) (aa:Option Addr) (ca:Nat) (ha:Sl rAt C aa a) (hby:I64 by') :
  CC 50 #[.slice aa a.length ca,iV by'] w (fun e w'=>∃ ar cr,e = .returned (.tuple #[.slice ar (upR a by').length cr,iV (upE a by')]) /\ Sl rAt (New w.heap.size w') ar (upR a by') /\ Kp [] w w'):=by
 refine oF Tryz.func50 ?_;refine cO (args:=[_,_]) 39 [.tmp 4,.tmp 5] τok Tryz.func50 ?_;have bad:∀ e w',upE a by' = e -> e ≠ 0 -> Kp [] w w' -> ∃ ar cr,Ending.returned (Go.Wx.one [.slice none 0 0,iV e]) = .returned (.tuple #[.slice ar (upR a by').length cr,iV (upE a by')]) /\ Sl rAt (New w.heap.size w') ar (upR a by') /\ Kp [] w w':=fun e w' he h0 hk=>by
  have hr:upR a by' = []:=by unfold upR; rw [if_neg (by rw [he]; exact h0)]
  rw [hr,he];exact ⟨none,0,rfl,Sl.nil _ _ _,hk⟩
 refine ab' (eZ' a aa ca 16 w (Sl.atoms ha hS)) ?_;rintro e w1 ⟨rfl,hk1⟩;refine br (fun g1=>?_) (fun g1=>?_)
 ·exact bad 19 _ (by unfold upE; rw [if_pos (by simpa using g1)]) (by omega) hk1
 have g1:aT' a 16 = true:=by simpa using g1
 refine ac' (fun g2=>?_) (fun g2=>?_)
 ·exact bad 1 _ (by unfold upE; rw [if_neg (by simp [g1]),if_pos g2]) (by omega) hk1
 have hE:upE a by' = if a.any (fun x=>decide (1000 < x.add + by')) then 6 else 0:=by unfold upE; rw [if_neg (by simp [g1]),if_neg g2]
 have hadd:=(bD' g1).2;have hal:=(bD' g1).1;unfold I64 at hby;refine ab' (rr' (hS.tr hk1) a aa ca ha (by omega)) ?_;rintro e w2 ⟨v,rfl,hO,hk2⟩;have k02:=hk1.tr hk2;have z1:=hk1.size;obtain ⟨av,cv,rfl⟩:=hO.len;refine lp τok (σ:=Nat) (fun i=>[(1,iV by'),(6,.slice av a.length cv),(16,iV a.length),(17,iV i)])
  (fun i w'=>i <= a.length /\ Own rAt 135 w1.heap.size w' (.slice av a.length cv) ((upL a by').take i ++ a.drop i) /\ Kp [] w1 w' /\ ∀ x ∈ a.take i,x.add + by' <= 1000) (fun i=>a.length - i) 0 rfl ⟨rfl,rfl,rfl,rfl,trivial⟩ ⟨KV _,by simpa using hO,hk2,by simp⟩ ?_
 clear hO
 rintro i w3 ⟨hi,hO,hk3,hall⟩;have hul:(upL a by').length = a.length:=by simp [upL]
 refine ac' (fun g3=>?_) (fun g3=>?_)
 ·have hlt:i < a.length:=by omega
  obtain ⟨x,hx,hd⟩:=af' hlt;have hxa:=hadd x (JQ hx);have hul':(upL a by')[i]? = some ⟨x.var,x.add + by'⟩:=by simp [upL,hx]
  have hcur:((upL a by').take i ++ a.drop i)[i]? = some x:=by
   rw [List.getElem?_append_right (by simp; omega)];have:i - ((upL a by').take i).length = 0:=by rw [List.length_take,hul]; omega
   rw [this,hd]
   rfl
  have hlen3:((upL a by').take i ++ a.drop i).length = a.length:=by simp; omega
  obtain ⟨a0,c0,e0,hSl⟩:=hO.den (by omega);rw [hlen3] at e0;cases e0;obtain ⟨g,o,rfl,hc0,hc1,_,_⟩:=rp' hSl hcur;refine ix i rfl hlt ?_;refine ld (hc1.2.cl).cell ?_;refine i6 ?_;refine ac' (fun g4=>?_) (fun g4=>?_)
  ·refine bad 6 _ ?_ (by omega) (hk1.tr hk3)
   rw [hE,if_pos];exact List.any_eq_true.2 ⟨x,JQ hx,by simp; omega⟩
  refine ix i rfl hlt ?_;refine ld (hc1.2.cl).cell ?_;refine i6 ?_;refine ix i rfl hlt ?_;obtain ⟨g',c',e1,hg,hst⟩:=hO.st (j:=1) (x:=x) (y:=⟨x.var,x.add + by'⟩) hcur (by decide) (u:=iV (x.add + by')) rfl (fun cs hcs=>by
   obtain ⟨rfl,_,_⟩:=hcs;exact ⟨rfl,by unfold I64; simp only; omega,by unfold I64; simp only; omega⟩)
  rw [hlen3] at e1;injection e1 with e2 e3 e4
  injection e2 with e2
  injection e2 with e5 e6
  subst e5 e6;refine hst fun w4 hO4 hs4 hk4=>?_;refine i6 ?_;refine ⟨i + 1,by omega,rfl,⟨rfl,rfl,rfl,rfl,trivial⟩,hlt,?_,hk3.trans hk4 (fun y hy hl=>by simp at hy; omega),?_⟩
  ·have e7:((upL a by').take i ++ a.drop i).set i ⟨x.var,x.add + by'⟩ = (upL a by').take (i + 1) ++ a.drop (i + 1):=by
    rw [List.set_append_right _ _ (by simp; omega)];have:i - ((upL a by').take i).length = 0:=by rw [List.length_take,hul]; omega
    rw [this,hd,al' hul'];simp
   rw [e7] at hO4;exact hO4
  ·rw [al' hx]
   intro y hy;rcases List.mem_append.1 hy with hy | hy
   ·exact hall y hy
   ·simp at hy; subst hy; omega
 ·rw [JG (by omega),JY (by omega),JD] at hO
  rw [JG (by omega)] at hall;have hE0:upE a by' = 0:=by
   rw [hE,if_neg];intro h;obtain ⟨x,hx,h1⟩:=List.any_eq_true.1 h;have:=hall x hx;simp at h1;omega
  have hR:upR a by' = upL a by':=by unfold upR; rw [if_pos hE0]
  rw [hR,hE0];obtain ⟨a0,c0,e0,hSl⟩:=hO.den (by omega);rw [hul] at e0 ⊢;cases e0;exact ⟨av,cv,rfl,hSl.mono (New.up z1 (Kp.refl _ _)),hk1.tr hk3⟩
open Go.Wx Cd Tm Lv
theorem vm' {p q:Nd}:(p.op = q.op /\ p.a = q.a /\ p.b = q.b) ↔ p = q:=by
 obtain ⟨a,b,c⟩:=p;obtain ⟨a',b',c'⟩:=q;constructor
 ·rintro ⟨h1,h2,h3⟩
  simp only at h1 h2 h3;subst h1 h2 h3
  rfl
 ·intro h
  injection h with h1 h2 h3
  exact ⟨h1,h2,h3⟩
instance ndDec:DecidableEq Nd:=fun p q=>decidable_of_iff (p.op = q.op /\ p.a = q.a /\ p.b = q.b) vm'
theorem gZ' (x y:Operand) (p q:Nd) (w:World):(do eqGuard .neq 45 x y (ndV p) (ndV q); binOp .neq 45 (ndV p) (ndV q):Sem Value).run Tryz.prog w = .ok (.bool (!decide (p = q))) w:=by
 have hfs : (Tryz.prog.fieldsOf 45).toList.map (fun f => (f.name != "_", f.offset, f.type)) = [(true, 0, 3), (true, 1, 3), (true, 2, 3)] := by kernel_rfl
 have hu:Tryz.prog.underlying 45 = some (.struct (Tryz.prog.fieldsOf 45)):=by kernel_rfl
 have hm:Tryz.prog.eqGuardType Tryz.prog.depth 45 = false:=by kernel_rfl
 have hst:Tryz.prog.stoodInHeld 45 = false:=by kernel_rfl
 simp only [Sem.run_bind,run_eqGuard_agg w .neq 45 x y _ _ hm,Result.andThen_ok,run_neq_struct];rw [show (10000:Nat) = 9999 + 1 from rfl,run_equalIn_struct w 9999 45 _ _ hu hst]
 generalize (Tryz.prog.fieldsOf 45).toList = fs at hfs
 have hfl:fs.length = 3:=by have:=congrArg List.length hfs; simpa using this
 match fs,hfl,hfs with
 | [f,g,h],_,hfs =>
  simp only [List.map_cons,List.map_nil,List.cons.injEq,Prod.mk.injEq,bne_iff_ne,ne_eq,and_true] at hfs;obtain ⟨⟨n1,o1,t1⟩,⟨n2,o2,t2⟩,n3,o3,t3⟩:=hfs;have e1:∀ (a b:Int) (w:World),(Op.equalIn 9999 3 (iV a) (iV b)).run Tryz.prog w = .ok (a == b) w:=fun a b w=>by rw [show (9999:Nat) = 9998 + 1 from rfl]; exact run_equalIn_int w 9998 3 .i64 .i64 a b Tryz.underlying3
  have p0:∀ (a b c:Value) (w:World),(part 3 #[a,b,c] 0).run Tryz.prog w = .ok a w:=fun a b c w=>by simp [part,isAgg,run_underlying Tryz.underlying3]
  have p1:∀ (a b c:Value) (w:World),(part 3 #[a,b,c] 1).run Tryz.prog w = .ok b w:=fun a b c w=>by simp [part,isAgg,run_underlying Tryz.underlying3]
  have p2:∀ (a b c:Value) (w:World),(part 3 #[a,b,c] 2).run Tryz.prog w = .ok c w:=fun a b c w=>by simp [part,isAgg,run_underlying Tryz.underlying3]
  obtain ⟨pv,pa,pc⟩:=p;obtain ⟨qv,qa,qc⟩:=q
  by_cases h1:pv = qv
  ·subst h1
   by_cases h2:pa = qa
   ·subst h2
    by_cases h3:pc = qc
    ·subst h3
     simp [Op.eqFields,n1,n2,n3,o1,o2,o3,t1,t2,t3,p0,p1,p2,e1]
    ·simp [Op.eqFields,n1,n2,n3,o1,o2,o3,t1,t2,t3,p0,p1,p2,e1,h3]
   ·simp [Op.eqFields,n1,n2,n3,o1,o2,o3,t1,t2,t3,p0,p1,p2,e1,h2]
  ·simp [Op.eqFields,n1,n2,n3,o1,o2,o3,t1,t2,t3,p0,p1,p2,e1,h1]
theorem gq' (x y:Operand) (p q:Nd) (w:World):(do eqGuard .eql 45 x y (ndV p) (ndV q); binOp .eql 45 (ndV p) (ndV q):Sem Value).run Tryz.prog w = .ok (.bool (decide (p = q))) w:=by
 have hfs : (Tryz.prog.fieldsOf 45).toList.map (fun f => (f.name != "_", f.offset, f.type)) = [(true, 0, 3), (true, 1, 3), (true, 2, 3)] := by kernel_rfl
 have hu:Tryz.prog.underlying 45 = some (.struct (Tryz.prog.fieldsOf 45)):=by kernel_rfl
 have hm:Tryz.prog.eqGuardType Tryz.prog.depth 45 = false:=by kernel_rfl
 have hst:Tryz.prog.stoodInHeld 45 = false:=by kernel_rfl
 simp only [Sem.run_bind,run_eqGuard_agg w .eql 45 x y _ _ hm,Result.andThen_ok,run_eql_struct];rw [show (10000:Nat) = 9999 + 1 from rfl,run_equalIn_struct w 9999 45 _ _ hu hst]
 generalize (Tryz.prog.fieldsOf 45).toList = fs at hfs
 have hfl:fs.length = 3:=by have:=congrArg List.length hfs; simpa using this
 match fs,hfl,hfs with
 | [f,g,h],_,hfs =>
  simp only [List.map_cons,List.map_nil,List.cons.injEq,Prod.mk.injEq,bne_iff_ne,ne_eq,and_true] at hfs;obtain ⟨⟨n1,o1,t1⟩,⟨n2,o2,t2⟩,n3,o3,t3⟩:=hfs;have e1:∀ (a b:Int) (w:World),(Op.equalIn 9999 3 (iV a) (iV b)).run Tryz.prog w = .ok (a == b) w:=fun a b w=>by rw [show (9999:Nat) = 9998 + 1 from rfl]; exact run_equalIn_int w 9998 3 .i64 .i64 a b Tryz.underlying3
  have p0:∀ (a b c:Value) (w:World),(part 3 #[a,b,c] 0).run Tryz.prog w = .ok a w:=fun a b c w=>by simp [part,isAgg,run_underlying Tryz.underlying3]
  have p1:∀ (a b c:Value) (w:World),(part 3 #[a,b,c] 1).run Tryz.prog w = .ok b w:=fun a b c w=>by simp [part,isAgg,run_underlying Tryz.underlying3]
  have p2:∀ (a b c:Value) (w:World),(part 3 #[a,b,c] 2).run Tryz.prog w = .ok c w:=fun a b c w=>by simp [part,isAgg,run_underlying Tryz.underlying3]
  obtain ⟨pv,pa,pc⟩:=p;obtain ⟨qv,qa,qc⟩:=q
  by_cases h1:pv = qv
  ·subst h1
   by_cases h2:pa = qa
   ·subst h2
    by_cases h3:pc = qc
    ·subst h3
     simp [Op.eqFields,n1,n2,n3,o1,o2,o3,t1,t2,t3,p0,p1,p2,e1]
    ·simp [Op.eqFields,n1,n2,n3,o1,o2,o3,t1,t2,t3,p0,p1,p2,e1,h3]
   ·simp [Op.eqFields,n1,n2,n3,o1,o2,o3,t1,t2,t3,p0,p1,p2,e1,h2]
  ·simp [Op.eqFields,n1,n2,n3,o1,o2,o3,t1,t2,t3,p0,p1,p2,e1,h1]
theorem Kp.hold {C:Mem} {w w':World} {X:List Nat} (k:Kp X w w') (hold:∀ b o v,C b o v -> b < w.heap.size):∀ b o v,C b o v -> b < w'.heap.size:=fun b o v h=>KZ (hold b o v h) k.size
section
variable {C D:Mem} {w:World}
theorem rs' (hS:Sub C w) (hD:Sub D w) (l m:List Nd) (a a':Option Addr) (c c':Nat) (hl:Sl rNd C a l) (hm:Sl rNd D a' m) :
  CC 140 #[.slice a l.length c,.slice a' m.length c'] w (fun e w'=>e = .returned (.bool (decide (l = m))) /\ Kp [] w w'):=by
 refine oF Tryz.func140 ?_;have hlen:=hl.1;obtain ⟨RES,hRES⟩:∃ r,decide (l = m) = r:=⟨_,rfl⟩
 rw [hRES];refine cO (args:=[_,_]) 26 [.tmp 4] τok Tryz.func140 ?_;refine ac' (fun h1=>?_) (fun h1=>?_)
 ·have:¬ l = m:=fun e=>h1 (by rw [e])
  exact ⟨by rw [<- hRES,decide_eq_false this]; rfl,Kp.refl _ _⟩
 have h1:l.length = m.length:=by
  have:(l.length:Int) = m.length:=by simpa using h1
  omega
 refine lp τok (σ:=Nat) (fun k=>[(0,.slice a l.length c),(1,.slice a' m.length c'),(12,iV l.length),(13,iV k)]) (fun k w'=>k <= l.length /\ Kp [] w w' /\ RES = decide (l.drop k = m.drop k)) (fun k=>l.length - k) 0 rfl
  ⟨rfl,rfl,rfl,rfl,trivial⟩ ⟨KV _,Kp.refl _ _,hRES.symm⟩ ?_
 rintro k w1 ⟨hk,hkp,hr⟩;refine ac' (fun h=>?_) (fun h=>?_)
 ·have hlt:k < l.length:=by omega
  obtain ⟨x,hx,hd⟩:=af' hlt;obtain ⟨y,hy,hd'⟩:=af' (l:=m) (k:=k) (by omega);rw [hd,hd'] at hr;have hS1:=hS.tr hkp;have hD1:=hD.tr hkp;obtain ⟨b,o,rfl,_,_,_,hc⟩:=ft' hl hx;obtain ⟨b',o',rfl,_,_,_,hc'⟩:=ft' hm hy;refine nX' τok (fun w'=>Kp [] w1 w') (by kernel_rfl) (kQd w1) ?_;refine ix k rfl hlt ?_;refine dP' [iV x.op,iV x.a,iV x.b] rfl (fun j v hj=>hS1 _ _ _ (hc j v hj)) ?_;refine ix k rfl (by omega) ?_;refine dP' [iV y.op,iV y.a,iV y.b] rfl (fun j v hj=>hD1 _ _ _ (hc' j v hj)) ?_;refine sR' (v:=.bool (!decide (x = y))) (fun w _=>gZ' _ _ x y w) ?_;intro w2 hk2;refine br (fun hc=>?_) (fun hc=>?_)
  ·have:x ≠ y:=by simpa using hc
   refine ⟨?_,hkp.tr hk2⟩;rw [hr,decide_eq_false (by simp [this])]
   rfl
  ·have:x = y:=by simpa using hc
   subst this;refine i6 ?_;refine ⟨k + 1,by omega,rfl,⟨rfl,rfl,rfl,rfl,trivial⟩,hlt,hkp.tr hk2,?_⟩;rw [hr];simp
 ·refine ⟨?_,hkp⟩
  rw [hr,JY (by omega),JY (by omega)]
  rfl
theorem pm' (hS:Sub C w) (hD:Sub D w) (l m:List Int) (a a':Option Addr) (c c':Nat) (hl:Sl rInt C a l) (hm:Sl rInt D a' m) :
  CC 163 #[.slice a l.length c,.slice a' m.length c'] w (fun e w'=>e = .returned (.bool (decide (l = m))) /\ Kp [] w w'):=by
 refine oF Tryz.func163 ?_;have hlen:=hl.1;obtain ⟨RES,hRES⟩:∃ r,decide (l = m) = r:=⟨_,rfl⟩
 rw [hRES];refine cO (args:=[_,_]) 26 [.tmp 4] τok Tryz.func163 ?_;refine ac' (fun h1=>?_) (fun h1=>?_)
 ·have:¬ l = m:=fun e=>h1 (by rw [e])
  exact ⟨by rw [<- hRES,decide_eq_false this]; rfl,Kp.refl _ _⟩
 have h1:l.length = m.length:=by
  have:(l.length:Int) = m.length:=by simpa using h1
  omega
 refine lp τok (σ:=Nat) (fun k=>[(0,.slice a l.length c),(1,.slice a' m.length c'),(12,iV l.length),(13,iV k)]) (fun k w'=>k <= l.length /\ Kp [] w w' /\ RES = decide (l.drop k = m.drop k)) (fun k=>l.length - k) 0 rfl
  ⟨rfl,rfl,rfl,rfl,trivial⟩ ⟨KV _,Kp.refl _ _,hRES.symm⟩ ?_
 rintro k w1 ⟨hk,hkp,hr⟩;refine ac' (fun h=>?_) (fun h=>?_)
 ·have hlt:k < l.length:=by omega
  obtain ⟨x,hx,hd⟩:=af' hlt;obtain ⟨y,hy,hd'⟩:=af' (l:=m) (k:=k) (by omega);rw [hd,hd'] at hr;have hS1:=hS.tr hkp;have hD1:=hD.tr hkp;obtain ⟨b,o,rfl,hc,_⟩:=Sl.int hl hx;obtain ⟨b',o',rfl,hc',_⟩:=Sl.int hm hy;refine nX' τok (fun w'=>Kp [] w1 w') (by kernel_rfl) (kQd w1) ?_;refine ix k rfl hlt ?_;refine ldK (hS1 _ _ _ hc) ?_;refine ix k rfl (by omega) ?_;refine ldK (hD1 _ _ _ hc') ?_;intro w2 hk2;refine br (fun hc=>?_) (fun hc=>?_)
  ·have:x ≠ y:=by simpa using hc
   refine ⟨?_,hkp.tr hk2⟩;rw [hr,decide_eq_false (by simp [this])]
   rfl
  ·have:x = y:=by simpa using hc
   subst this;refine i6 ?_;refine ⟨k + 1,by omega,rfl,⟨rfl,rfl,rfl,rfl,trivial⟩,hlt,hkp.tr hk2,?_⟩;rw [hr];simp
 ·refine ⟨?_,hkp⟩
  rw [hr,JY (by omega),JY (by omega)]
  rfl
theorem kv' (hS:Sub C w) (hD:Sub D w) (l m:List Nd) (a a':Option Addr) (c c':Nat) (hl:Sl rNd C a l) (hm:Sl rNd D a' m) :
  CC 9 #[.slice a l.length c,.slice a' m.length c'] w (fun e w'=>e = .returned (.bool (decide (l = m))) /\ Kp [] w w'):=by
 refine oF Tryz.func9 ?_;have hlen:=hl.1;obtain ⟨RES,hRES⟩:∃ r,decide (l = m) = r:=⟨_,rfl⟩
 rw [hRES];refine cO (args:=[_,_]) 26 [.tmp 4] τok Tryz.func9 ?_;refine ac' (fun h1=>?_) (fun h1=>?_)
 ·have:¬ l = m:=fun e=>h1 (by rw [e])
  exact ⟨by rw [<- hRES,decide_eq_false this]; rfl,Kp.refl _ _⟩
 have h1:l.length = m.length:=by
  have:(l.length:Int) = m.length:=by simpa using h1
  omega
 refine lp τok (σ:=Nat) (fun k=>[(0,.slice a l.length c),(1,.slice a' m.length c'),(5,iV k)]) (fun k w'=>k <= l.length /\ Kp [] w w' /\ RES = decide (l.drop k = m.drop k)) (fun k=>l.length - k) 0 rfl
  ⟨rfl,rfl,rfl,trivial⟩ ⟨KV _,Kp.refl _ _,hRES.symm⟩ ?_
 rintro k w1 ⟨hk,hkp,hr⟩;refine ac' (fun h=>?_) (fun h=>?_)
 ·have hlt:k < l.length:=by omega
  obtain ⟨x,hx,hd⟩:=af' hlt;obtain ⟨y,hy,hd'⟩:=af' (l:=m) (k:=k) (by omega);rw [hd,hd'] at hr;have hS1:=hS.tr hkp;have hD1:=hD.tr hkp;obtain ⟨b,o,rfl,_,_,_,hc⟩:=ft' hl hx;obtain ⟨b',o',rfl,_,_,_,hc'⟩:=ft' hm hy;refine nX' τok (fun w'=>Kp [] w1 w') (by kernel_rfl) (kQd w1) ?_;refine ix k rfl hlt ?_;refine dP' [iV x.op,iV x.a,iV x.b] rfl (fun j v hj=>hS1 _ _ _ (hc j v hj)) ?_;refine ix k rfl (by omega) ?_;refine dP' [iV y.op,iV y.a,iV y.b] rfl (fun j v hj=>hD1 _ _ _ (hc' j v hj)) ?_;refine sR' (v:=.bool (!decide (x = y))) (fun w _=>gZ' _ _ x y w) ?_;intro w2 hk2;refine br (fun hc=>?_) (fun hc=>?_)
  ·have:x ≠ y:=by simpa using hc
   refine ⟨?_,hkp.tr hk2⟩;rw [hr,decide_eq_false (by simp [this])]
   rfl
  ·have:x = y:=by simpa using hc
   subst this;refine i6 ?_;refine ⟨k + 1,by omega,rfl,⟨rfl,rfl,rfl,trivial⟩,hlt,hkp.tr hk2,?_⟩;rw [hr];simp
 ·refine ⟨?_,hkp⟩
  rw [hr,JY (by omega),JY (by omega)]
  rfl
def dN' (x:Tr):List Atom:=x.ks.map fun k=>⟨k.n.a,k.n.b⟩
theorem mJ' {x:Tr} (hx:Ok .tm x) (h2:x.n.op = 2):row x = x.n :: x.ks.map (·.n) /\ x.ks.length <= 4 /\ (x.ks.length:Int) = x.n.b /\ ∀ k ∈ x.ks,k.n.op = 3 /\ ah' k.n = true:=by
 obtain ⟨n,ks⟩:=x;simp only [Tr.n,Tr.ks] at h2 ⊢;obtain ⟨hc,hok,hi⟩:=hx.kids;obtain ⟨hp,_,_,hk⟩:=bG' hc;rw [if_pos h2] at hk;have hpp:(n.a = 0 \/ n.a = 1) /\ inR n.b 1 4 = true:=by simpa [ah',h2] using hp
 have:=aF'.1 hpp.2;have each:∀ (l:List Tr) (k:Nat),okL cnt nx l n .tm k -> ∀ y ∈ l,y.n.op = 3 /\ ah' y.n = true /\ y.ks = []:=by
  intro l
  induction l with
  | nil=>intro k _ y hy; cases hy
  | cons z l ih =>
   intro k h y hy;rcases List.mem_cons.1 hy with rfl | hy
   ·obtain ⟨m,s⟩:=y
    have h1:=h.1.1;rw [show nx Md.tm n k = .am by simp [nx,h2]] at h1;simp only [cnt] at h1;split at h1
    ·rename_i g
     exact ⟨g.1,g.2,List.length_eq_zero_iff.1 (JB h1).symm⟩
    ·cases h1
   ·exact ih _ h.2 y hy
 have all:=each ks 0 hok;refine ⟨?_,by omega,by omega,fun k hk=>⟨(all k hk).1,(all k hk).2.1⟩⟩;simp only [row]
 congr 1
 have:∀ (l:List Tr),(∀ y ∈ l,y.ks = []) -> rows l = l.map (·.n):=by
  intro l
  induction l with
  | nil=>intro _; rfl
  | cons y l ih =>
   intro h;obtain ⟨m,s⟩:=y;have:s = []:=h (.mk m s) (by simp);subst this;simp only [rows,row,List.map_cons,Tr.n];rw [ih fun y hy=>h y (by simp [hy])]
   rfl
 exact this ks fun y hy=>(all y hy).2.2
def placesM (x:Tr):List Int:=x.ks.map (·.n.a)
end
theorem Sl.ordV {C:Mem} {w:World} {a:Option Addr} {l:List aU'} (h:Sl rOr C a l) (hS:Sub C w):kl' w.heap.size w.heap a l:=by
 refine ⟨?_,fun x hx=>?_⟩
 ·rcases h.2 with h0 | ⟨b,o,ha,hc⟩
  ·exact .inl h0
  ·rcases Nat.eq_zero_or_pos l.length with h0 | h0
   ·exact .inl h0
   have key:∀ i j,i < l.length -> j < 3 -> Cl w.heap b (o + i * 3 + j) (iV (if j = 0 then (l.getD i default).low else if j = 1 then (l.getD i default).add else (l.getD i default).high)):=fun i j hi hj=>by
    obtain ⟨cs,⟨rfl,_⟩,h5⟩:=hc i l[i] (by simp);have e:l.getD i default = l[i]:=by simp [hi]
    rw [e]
    match j,hj with
    | 0,_=>exact hS _ _ _ (h5 0 _ rfl)
    | 1,_=>exact hS _ _ _ (h5 1 _ rfl)
    | 2,_=>exact hS _ _ _ (h5 2 _ rfl)
   exact .inr ⟨b,o,ha,(key 0 0 h0 (by omega)).lt,key⟩
 ·obtain ⟨i,hi⟩:=JH hx
  obtain ⟨b,o,ha,hc⟩:=h.at (ai' hi)
  obtain ⟨cs,⟨rfl,h1⟩,h5⟩:=hc i x hi;exact h1
section
variable {C:Mem} {w:World} {Q:Nd -> Prop} {N:Int} {x y:Tr} {v:Value}
theorem eh' (hS:Sub C w) (hx:Ft Q N x) (h2:x.n.op = 2) (hv:TmV C x v) :
  CC 51 #[v] w (fun e w'=>∃ a c,e = .returned (.slice a (dN' x).length c) /\ Sl rAt (New w.heap.size w') a (dN' x) /\ Kp [] w w'):=by
 refine oF Tryz.func51 ?_;obtain ⟨hrow,hl4,hlb,hks⟩:=mJ' hx.ok h2;have hp:=hx.ok.pl;have hpp:(x.n.a = 0 \/ x.n.a = 1) /\ inR x.n.b 1 4 = true:=by simpa [ah',h2] using hp
 have hb1:=aF'.1 hpp.2;have hvv:=hv;obtain ⟨b,o,c,rfl,_,_,_,_⟩:=hv.hd;have hlen:(row x).length = x.ks.length + 1:=by rw [hrow]; simp
 have hll:(dN' x).length = x.ks.length:=by simp [dN']
 refine cO (args:=[_]) 23 [.tmp 2] τok Tryz.func51 ?_;obtain ⟨_,_,hvc,_,hcc⟩:=hvv;injection hvc with _ _ q3
 refine jV' τok rfl 1 (.slice (some ⟨b,o + 1 * 3,none⟩) ((row x).length - 1) (c - 1)) rfl (by omega) (gC' (by omega)) ?_;have e1:(row x).length - 1 = x.ks.length:=by omega
 rw [e1];refine lp τok (σ:=Nat × Value) (fun q=>[(3,q.2),(7,.slice (some ⟨b,o + 1 * 3,none⟩) x.ks.length (c - 1)),(8,iV (x.ks.length:Int)),(9,iV (q.1:Int))])
  (fun q w'=>q.1 <= x.ks.length /\ Own rAt 135 w.heap.size w' q.2 ((dN' x).take q.1) /\ Kp [] w w') (fun q=>x.ks.length - q.1) (0,.slice none 0 0) rfl
  ⟨rfl,rfl,rfl,rfl,trivial⟩ ⟨KV _,Own.nil _ _ (KJ _),Kp.refl _ _⟩ ?_
 rintro ⟨i,v1⟩ w1 ⟨hi,hO,hk1⟩;simp only at hi hO;refine ac' (fun g=>?_) (fun g=>?_)
 ·have g:(i:Int) < x.ks.length:=g
  obtain ⟨k,hk,_⟩:=af' (l:=x.ks) (k:=i) (by omega);have hki:=hks k (JQ hk);obtain ⟨b',o',c',hve,hi1,hi2,hi3,hc⟩:=hv.nd (i:=i + 1) (n:=k.n) (by rw [hrow]; simp [hk]);injection hve with q1 q2 q4
  injection q1 with q1
  injection q1 with q1 q5 q6
  subst q1 q5;have hlv:(dN' x)[i]? = some ⟨k.n.a,k.n.b⟩:=by simp [dN',hk]
  refine ix i rfl (by omega) ?_;refine ldN [iV k.n.op,iV k.n.a,iV k.n.b] rfl (fun j u hj=>by
   have:=hc j u hj;rw [show o + (i + 1) * 3 + j = o + 1 * 3 + i * 3 + j by omega] at this;exact hS.tr hk1 _ _ _ this) ?_
  refine new fun b5 w2 hb5 h5 hs2 hk2=>?_;refine stN (vs:=[iV k.n.op,iV k.n.a,iV k.n.b]) h5 rfl (by simp [Value.oneCell']) fun w3 h5 hs3 hk3=>?_;have k13:=hk2.newSt hb5 hk3;refine lb h5 ?_;refine lb h5 ?_;refine fill [iV k.n.a,iV k.n.b] rfl ?_;refine new fun b6 w4 hb6 h6 hs4 hk4=>?_;have k14:=k13.tr hk4;have hlen4:((dN' x).take i).length = i:=by simp; omega
  refine (hO.kp k14).ap1 τok rfl rfl (by decide) ⟨k.n.a,k.n.b⟩ [iV k.n.a,iV k.n.b] ⟨rfl,hi2,hi3⟩ (bZ h6) (by rw [hlen4]; omega) (by rw [hlen4]; unfold maxLen; omega) fun v2 w5 hO5 hk5 _=>?_;refine i6 ?_;refine ⟨(i + 1,v2),by simp only; omega,rfl,⟨rfl,rfl,rfl,rfl,trivial⟩,by show i + 1 <= _; omega,?_,(hk1.tr k14).own hk5 (hO.kp k14)⟩;rw [al' hlv];exact hO5
 ·rw [JG (by omega)] at hO
  obtain ⟨a,c2,rfl,hs⟩:=hO.den (by omega);exact ⟨a,c2,rfl,hs,hk1⟩
theorem kw' (hS:Sub C w) (hx:Ft Q N x) (h12:x.n.op = 12) (hv:TmV C x v) :
  CC 164 #[v] w (fun e w'=>∃ a c,e = .returned (.slice a (placesM x).length c) /\ Sl rInt (New w.heap.size w') a (placesM x) /\ Kp [] w w'):=by
 refine oF Tryz.func164 ?_;have hl:=aG' hx.ok h12;have hlen:=hx.len;have hvv:=hv;obtain ⟨b,o,c,rfl,_,_,_,hc⟩:=hv.hd;have hpl:(placesM x).length = x.ks.length:=by simp [placesM]
 refine cO (args:=[_]) 27 [.tmp 2] τok Tryz.func164 ?_;refine ix 0 rfl (ag' _) ?_;refine ldC hS (by simpa using hc 2 _ rfl) ?_;refine lp τok (σ:=Nat × Value) (fun q=>[(0,.slice (some ⟨b,o,none⟩) (row x).length c),(3,q.2),(4,iV ((1 + (rows (x.ks.take q.1)).length:Nat):Int)),(8,iV x.n.b),(9,iV (q.1:Int))])
  (fun q w'=>q.1 <= x.ks.length /\ Own rInt 3 w.heap.size w' q.2 ((placesM x).take q.1) /\ Kp [] w w') (fun q=>x.ks.length - q.1) (0,.slice none 0 0) rfl ⟨rfl,rfl,rfl,rfl,rfl,trivial⟩ ⟨KV _,Own.nil _ _ (KJ _),Kp.refl _ _⟩ ?_
 rintro ⟨i,v1⟩ w1 ⟨hi,hO,hk1⟩;simp only at hi hO;refine ac' (fun g=>?_) (fun g=>?_)
 ·have g:(i:Int) < x.n.b:=g
  obtain ⟨h,hh,_⟩:=af' (l:=x.ks) (k:=i) (by omega);obtain ⟨ty,bo,hhe,h13,_,hty,hbo,_,hat,e1,e2⟩:=fQ' hx.ok h12 hh;have es:(rows (x.ks.take (i + 1))).length = (rows (x.ks.take i)).length + (1 + ((row ty).length + (row bo).length)):=by
   rw [al' hh,bz',JK];rw [hhe];simp [rows,row];omega
  have hlt:=ai' hat;obtain ⟨b',o',c',hve,hi1,hi2,hi3,hcc⟩:=hvv.nd hat;injection hve with q1 q2 q3
  injection q1 with q1
  injection q1 with q4 q5 q6
  subst q4 q5 q3;refine ix (1 + (rows (x.ks.take i)).length) rfl hlt ?_;refine ldC (hS.tr hk1) (hcc 1 _ rfl) ?_;refine fill [iV h.n.a] rfl ?_;refine new fun b6 w2 hb6 h6 hs2 hk2=>?_;have hlen4:((placesM x).take i).length = i:=by simp; omega
  have hpv:(placesM x)[i]? = some h.n.a:=by simp [placesM,hh]
  refine (hO.kp hk2).ap1 τok rfl rfl (by decide) h.n.a [iV h.n.a] ⟨rfl,hi2⟩ (bZ h6) (by rw [hlen4]; omega) (by rw [hlen4]; unfold maxLen; omega) fun v2 w3 hO3 hk3 _=>?_;have k03:=(hk1.tr hk2).own hk3 (hO.kp hk2);refine i6 ?_;refine ab' (cP' (hS.tr k03) hvv hlen e1 hty (i:=((1 + (rows (x.ks.take i)).length:Nat):Int) + 1) (by simp; omega)) ?_;rintro e w4 ⟨rfl,hk4⟩;refine ab' (cP' (hS.tr (k03.tr hk4)) hvv hlen e2 hbo (by simp; omega)) ?_;rintro e w5 ⟨rfl,hk5⟩;refine i6 ?_;refine ⟨(i + 1,v2),by simp only; omega,rfl,⟨rfl,rfl,?_,rfl,rfl,trivial⟩,by show i + 1 <= _; omega,?_,(k03.tr hk4).tr hk5⟩
  ·show some (iV _) = some (iV ((1 + (rows (x.ks.take (i + 1))).length:Nat):Int))
   congr 3
   rw [es];simp;omega
  ·rw [al' hpv]
   exact (hO3.kp hk4).kp hk5
 ·have g:¬ (i:Int) < x.n.b:=g
  rw [JG (by omega)] at hO;obtain ⟨a,c2,rfl,hs⟩:=hO.den (by omega);exact ⟨a,c2,rfl,hs,hk1⟩
end
def CmpC (C:Mem) (w:World) (bj:Nat) (B:BoT) (c:Ctx) (n er:Int):Prop:=∃ v1 v2 v3 v4,Bk w.heap bj [iV B.vars,v1,v2,iV B.nat,v3,v4,iV n,iV er] 190 /\ SV rOr C B.orders v1 /\ SV rEn C B.ents v2 /\ SV rPr C B.prims v3 /\ SV rBd C (c.map bdR) v4
section
variable {w w':World} {X Y:List Nat} {B:BoT} {cx:Ctx} {bj:Nat} {n er:Int}
theorem CmpC.mono {C D:Mem} (h:CmpC C w bj B cx n er) (hc:∀ b o v,C b o v -> D b o v):CmpC D w bj B cx n er:=by
 obtain ⟨v1,v2,v3,v4,h1,h2,h3,h4,h5⟩:=h;exact ⟨v1,v2,v3,v4,h1,h2.mono hc,h3.mono hc,h4.mono hc,h5.mono hc⟩
theorem CmpC.kp {C:Mem} (h:CmpC C w bj B cx n er) {Z:List Nat} (k:Kp Z w w') (hb:bj ∉ Z):CmpC C w' bj B cx n er:=by
 obtain ⟨v1,v2,v3,v4,h1,h2,h3,h4,h5⟩:=h;exact ⟨v1,v2,v3,v4,h1.kp k hb,h2,h3,h4,h5⟩
end
def kx' (B:BoT) (f g:Tr) (under:Bool):Bool:=decide (f.n.a = g.n.a) && (fP' B.vars B.orders (dN' f) (dN' g) && (under || fP' B.vars B.orders (dN' g) (dN' f)))
section
variable {C:Mem} {w:World} {Q:Nd -> Prop} {N:Int} {B:BoT} {cx:Ctx} {bj:Nat} {n er:Int}
theorem rt' (hS:Sub C w) (hJ:CmpC C w bj B cx n er) {f g:Tr} (hf:Ft Q N f) (hg:Ft Q N g) (f2:f.n.op = 2) (g2:g.n.op = 2) {vf vg:Value} (hvf:TmV C f vf) (hvg:TmV C g vg) (under:Bool) :
  CC 155 #[pt bj,vf,vg,.bool under] w (fun e w'=>e = .returned (.bool (kx' B f g under)) /\ Kp [] w w'):=by
 refine oF Tryz.func155 ?_;obtain ⟨v1,v2,v3,v4,hJb,hOr,_,_,_⟩:=hJ;obtain ⟨ao,co,rfl,hO1,hO2⟩:=hOr;obtain ⟨RES,hRES⟩:∃ r,kx' B f g under = r:=⟨_,rfl⟩
 rw [hRES];unfold kx' at hRES;have hvf':=hvf;have hvg':=hvg;obtain ⟨bf,of,cf,rfl,_,_,_,hcf⟩:=hvf.hd;obtain ⟨bg,og,cg,rfl,_,_,_,hcg⟩:=hvg.hd;refine cO (args:=[_,_,_,_]) 57 [.tmp 8] τok Tryz.func155 ?_;refine ab' (eh' hS hf f2 hvf') ?_;rintro e w1 ⟨al,cl,rfl,hl,hk1⟩;refine ab' (eh' (hS.tr hk1) hg g2 hvg') ?_;rintro e w2 ⟨am,cm,rfl,hm,hk2⟩;have k02:=hk1.tr hk2;have hl2:Sl rAt (New w.heap.size w2) al (dN' f):=hl.mono fun b o v h=>⟨h.1,h.2.kp hk2 (by simp)⟩
 refine nX' τok (fun w'=>Kp [] w2 w') (by kernel_rfl) (kQd w2) ?_;refine ix 0 rfl (ag' _) ?_;refine ldK (hS.tr k02 _ _ _ (by simpa using hcf 1 _ rfl)) ?_;refine ix 0 rfl (ag' _) ?_;refine ldK (hS.tr k02 _ _ _ (by simpa using hcg 1 _ rfl)) ?_;have hJ2:=hJb.kp k02 (by simp);have hu:∀ w',Kp [] w2 w' -> kl' w'.heap.size w'.heap ao B.orders /\ Atoms w'.heap.size w'.heap al (dN' f) /\ Atoms w'.heap.size w'.heap am (dN' g):=fun w' k =>
  ⟨Sl.ordV hO1 (hS.tr (k02.tr k)),Sl.atoms hl2 (Sub.tr (New.sub _ _) k),Sl.atoms hm (Sub.tr (New.sub _ _) k)⟩
 have fin:∀ {r:Bool} {w'},RES = r -> Kp [] w2 w' -> Ending.returned (Go.Wx.one [.bool r]) = .returned (.bool RES) /\ Kp [] w w':=fun h k=>⟨by rw [h]; rfl,k02.tr k⟩
 refine ac' (fun h1=>?_) (fun h1=>?_)
 ·have h1:f.n.a = g.n.a:=h1
  refine lk hJ2 ?_;refine lk hJ2 ?_;refine uE' (v:=.bool (fP' B.vars B.orders (dN' f) (dN' g))) (fun w' hk'=>by
   obtain ⟨q1,q2,q3⟩:=hu w' hk';exact mC' B.vars B.orders (dN' f) (dN' g) ao al am co cl cm w' q1 q2 q3) ?_
  rw [decide_eq_true h1,Bool.true_and] at hRES;refine br (fun h2=>?_) (fun h2=>?_)
  ·rw [h2,Bool.true_and] at hRES
   refine br (fun h3=>?_) (fun h3=>?_)
   ·rw [h3,Bool.true_or] at hRES
    intro w3 hk3;exact fin hRES.symm hk3
   ·rw [h3,Bool.false_or] at hRES
    refine lk hJ2 ?_;refine lk hJ2 ?_;refine uE' (v:=.bool (fP' B.vars B.orders (dN' g) (dN' f))) (fun w' hk'=>by
     obtain ⟨q1,q2,q3⟩:=hu w' hk';exact mC' B.vars B.orders (dN' g) (dN' f) ao am al co cm cl w' q1 q3 q2) ?_
    intro w3 hk3;exact fin hRES.symm hk3
  ·rw [h2,Bool.false_and] at hRES
   intro w3 hk3;exact fin hRES.symm hk3
 ·have h1:¬ f.n.a = g.n.a:=h1
  rw [decide_eq_false h1,Bool.false_and] at hRES;intro w3 hk3;exact fin hRES.symm hk3
end
abbrev RcC:=Ctx -> Tr -> Tr -> Bool -> Nat -> Except Int (Bool × Nat)
def fr' (m:Except Int (Bool × Nat)) (k:Nat -> Except Int (Bool × Nat)):Except Int (Bool × Nat):=match m with
 | .error e=>.error e
 | .ok q=>if q.1 = true then k q.2 else .ok (false,q.2)
def jp' (rc:RcC) (cx:Ctx):List Tr -> List Tr -> Nat -> Except Int (Bool × Nat)
 | x :: r,y :: s,n=>fr' (rc cx x y false n) (jp' rc cx r s)
 | _,_,n=>.ok (true,n)
def aI' (f:Tr):Ctx:=(List.range f.n.b.toNat).map fun i=>(aq' (kidD f (2 * i)) i 0,none)
def hY' (rc:RcC) (cx cx':Ctx):List Tr -> List Tr -> Nat -> Except Int (Bool × Nat)
 | x :: a :: r,y :: b :: s,n=>fr' (rc cx x y false n) fun n=>fr' (rc cx' a b false n) (hY' rc cx cx' r s)
 | _,_,n=>.ok (true,n)
def hj' (rc:RcC) (cx:Ctx) (f g:Tr) (n:Nat):Except Int (Bool × Nat) :=
 if placesM f = placesM g then hY' rc cx (cx ++ aI' f) (kidsT f) (kidsT g) n else .ok (false,n)
def dH' (B:BoT) (rc:RcC) (cx:Ctx) (f g:Tr) (under:Bool) (n:Nat):Except Int (Bool × Nat) :=
 if f.n.op = 2 then .ok (kx' B f g under,n)
 else if f.n.op = 4 then fr' (rc cx (kidD f 0) (kidD g 0) false n) (rc (cx ++ [(kidD f 0,none)]) (kidD f 1) (kidD g 1) under)
 else if f.n.op = 5 then fr' (rc cx (kidD f 0) (kidD g 0) false n) (rc (cx ++ [(kidD f 0,none)]) (kidD f 1) (kidD g 1) false)
 else if f.n.op = 12 then (if f.n = g.n then hj' rc cx f g n else .ok (false,n))
 else if f.n = g.n then jp' rc cx (kidsT f) (kidsT g) n else .ok (false,n)
def ky' (B:BoT) (rc:RcC) (cx:Ctx) (x y:Tr) (under:Bool) (n:Nat):Except Int (Bool × Nat) :=
 if (headT x).n.op ≠ (headT y).n.op \/ (argsT x).length ≠ (argsT y).length then .ok (false,n)
 else fr' (dH' B rc cx (headT x) (headT y) under n) (jp' rc cx (argsT x) (argsT y))
def mK' (B:BoT):Nat -> RcC
 | 0,_,_,_,_,_=>.error 10
 | g + 1,cx,x,y,u,n=>if n = 0 then .error 10 else if row x = row y then .ok (true,n - 1) else if 256 < cx.length then .error 5
  else match aM' B cx x ((n - 1:Nat):Int) with
   | .error e=>.error e
   | .ok p=>match aM' B cx y (p.2:Int) with
    | .error e=>.error e
    | .ok q=>ky' B (mK' B g) cx p.1 q.1 u q.2
section
variable {B:BoT} {cx:Ctx}
theorem lA':∀ (g:Nat) (x:Tr) (room:Int) (n:Nat) (q:Tr × Nat),bb' B cx g x room n = .ok q -> q.2 <= n
 | 0,x,room,n,q,h=>by cases h
 | g + 1,x,room,n,q,h=>by
  simp only [bb'] at h;have hpost:∀ p,gg' B cx (bb' B cx g) room p = .ok q -> q.2 <= p.2:=fun p h=>by
   unfold gg' at h;split at h
   ·split at h
    ·cases h
    ·cases ho:kp' B cx p.1 with
     | error e=>rw [ho] at h; cases h
     | ok z =>
      rw [ho] at h;simp only at h;split at h
      ·cases h
      ·have:=lA' g _ _ _ _ h
       omega
   ·injection h with h
    subst h;exact KJ _
  cases hp:kY' (bb' B cx g) x room n with
  | error e=>rw [hp] at h; cases h
  | ok p =>
   rw [hp] at h;have h1:=hpost p h;unfold kY' at hp;split at hp
   ·injection hp with hp
    subst hp;exact h1
   ·split at hp
    ·cases hp
    ·rename_i he
     injection hp with hp
     subst hp;have:=lA' g _ _ _ _ he;exact KQ h1 this
theorem iA' {x:Tr} {n:Nat} {q:Tr × Nat} (h:aM' B cx x (n:Int) = .ok q):q.2 <= n:=by
 have:=lA' _ _ _ _ _ h;unfold br' at this;omega
def st' (rc:RcC):Prop:=∀ cx x y u n q,rc cx x y u n = .ok q -> q.2 <= n
theorem fE' {m:Except Int (Bool × Nat)} {k:Nat -> Except Int (Bool × Nat)} {n:Nat} {q:Bool × Nat} (hm:∀ q,m = .ok q -> q.2 <= n) (hk:∀ i q,k i = .ok q -> q.2 <= i) (h:fr' m k = .ok q):q.2 <= n:=by
 unfold fr' at h;split at h
 ·cases h
 ·rename_i p
  have h1:=hm p rfl;split at h
  ·exact KQ (hk _ _ h) h1
  ·injection h with h
   subst h;exact h1
theorem pn' {rc:RcC} (hr:st' rc):∀ (xs ys:List Tr) (n:Nat) (q:Bool × Nat),jp' rc cx xs ys n = .ok q -> q.2 <= n
 | x :: r,y :: s,n,q,h=>fE' (fun q=>hr _ _ _ _ _ q) (fun i q=>pn' hr r s i q) h
 | [],ys,n,q,h=>by simp only [jp',Except.ok.injEq] at h; subst h; exact KJ _
 | x :: r,[],n,q,h=>by simp only [jp',Except.ok.injEq] at h; subst h; exact KJ _
theorem po' {rc:RcC} (hr:st' rc) {cx':Ctx}:∀ (xs ys:List Tr) (n:Nat) (q:Bool × Nat),hY' rc cx cx' xs ys n = .ok q -> q.2 <= n
 | x :: a :: r,y :: b :: s,n,q,h=>fE' (fun q=>hr _ _ _ _ _ q) (fun i q h=>fE' (fun q=>hr _ _ _ _ _ q) (fun i q=>po' hr r s i q) h) h
 | [],ys,n,q,h=>by simp only [hY',Except.ok.injEq] at h; subst h; exact KJ _
 | [x],ys,n,q,h=>by simp only [hY',Except.ok.injEq] at h; subst h; exact KJ _
 | x :: a :: r,[],n,q,h=>by simp only [hY',Except.ok.injEq] at h; subst h; exact KJ _
 | x :: a :: r,[y],n,q,h=>by simp only [hY',Except.ok.injEq] at h; subst h; exact KJ _
theorem mL' {rc:RcC} (hr:st' rc) {f g:Tr} {u:Bool} {n:Nat} {q:Bool × Nat} (h:dH' B rc cx f g u n = .ok q):q.2 <= n:=by
 unfold dH' at h;split at h
 ·injection h with h; subst h; exact KJ _
 split at h
 ·exact fE' (fun q=>hr _ _ _ _ _ q) (fun i q=>hr _ _ _ _ _ q) h
 split at h
 ·exact fE' (fun q=>hr _ _ _ _ _ q) (fun i q=>hr _ _ _ _ _ q) h
 split at h
 ·split at h
  ·unfold hj' at h
   split at h
   ·exact po' hr _ _ _ _ h
   ·injection h with h; subst h; exact KJ _
  ·injection h with h; subst h; exact KJ _
 split at h
 ·exact pn' hr _ _ _ _ h
 ·injection h with h; subst h; exact KJ _
theorem tD' {rc:RcC} (hr:st' rc) {f g:Tr} {u:Bool} {n:Nat} {q:Bool × Nat} (h:ky' B rc cx f g u n = .ok q):q.2 <= n:=by
 unfold ky' at h;split at h
 ·injection h with h; subst h; exact KJ _
 ·exact fE' (fun q=>mL' hr) (fun i q=>pn' hr _ _ _ _) h
theorem kz' (B:BoT):∀ g,st' (mK' B g)
 | 0,cx,x,y,u,n,q,h=>by cases h
 | g + 1,cx,x,y,u,n,q,h=>by
  simp only [mK'] at h;split at h
  ·cases h
  split at h
  ·injection h with h; subst h; simp
  split at h
  ·cases h
  split at h
  ·cases h
  rename_i p hp;split at h
  ·cases h
  rename_i p' hp';have h1:=iA' hp;have h2:=iA' hp';have h3:=tD' (kz' B g) h;omega
end
theorem ldI {X:List Nat} {w:World} {bj b o:Nat} {v:Value} {k:Value -> Prop} (hbj:bj ∈ X) (h:Im X w b o v) (hk:k v):EvLdQ (fun z=>Kp [bj] w z) ⟨b,o,none⟩ k :=
 ldQ (fun z hz=>(h.kp hz fun y hy _=>by
  obtain rfl:y = bj:=by simpa using hy
  exact hbj).1) hk
section
variable {B:BoT} {cx:Ctx} {X:List Nat} {w:World} {bj:Nat} {x:Tr} {n:Nat} {v:Value}
theorem iB' (hB:GoodB B) (hcx:CxOk B cx) (hcl:cx.length <= 90000) (hX:XL X w) (hbj:bj ∈ X) (hJ:CmpC (Im X w) w bj B cx n 0) (hx:Ft (QB B) (cx.length:Int) x) (hv:TmV (Im X w) x v) :
  CC 141 #[pt bj,v] w (fun e w'=>(match aM' B cx x (n:Int) with
   | .ok q=>∃ u,e = .returned (.tuple #[u,.bool true]) /\ TmV (Im X w') q.1 u /\ CmpC (Im X w') w' bj B cx q.2 0
   | .error er=>e = .returned (.tuple #[.slice none 0 0,.bool false]) /\ er ≠ 0 /\ CmpC (Im X w') w' bj B cx 0 er) /\ Kp [bj] w w'):=by
 refine oF Tryz.func141 ?_;have hJJ:=hJ;obtain ⟨v1,v2,v3,v4,hJb,hO,hE,hP,hC⟩:=hJ;have hvv:=hv;obtain ⟨av,cv,rfl,_,_⟩:=hvv;have hCC:=hC;obtain ⟨ac,cc,rfl,_,_⟩:=hCC;refine cO (args:=[_,_]) 38 [.tmp 4,.tmp 5] τok Tryz.func141 ?_;refine as' τok (fun z=>Kp [] w z) ?_;refine rV τok (rg 0 13) 8 (mR 21 13) (kQd w) ?_;refine dP' [iV B.vars,v1,v2,iV B.nat,v3] rfl (fun j u hj=>by
  refine hJb.cl ?_;rw [KW]
  match j,hj with
  | 0,hj=>exact hj
  | 1,hj=>exact hj
  | 2,hj=>exact hj
  | 3,hj=>exact hj
  | 4,hj=>exact hj
  | j + 5,hj=>cases hj) ?_
 refine lk hJb ?_;refine lk hJb ?_;refine nV τok 13 7 (mR 21 14) ?_;refine ab' (mF' (w:=(dr w)) (fuel:=(n:Int)) hB hcx hcl hX hx ⟨v1,v2,v3,rfl,hO,hE,hP⟩ hC hv) ?_;rintro e w1 ⟨he,hk1⟩;have hk1:Kp [] w w1:=hk1.rd;have tr1:∀ b o v,Im X w b o v -> Im X w1 b o v:=fun b o v h=>h.tr hk1;cases hr:aM' B cx x (n:Int) with
 | ok q =>
  rw [hr] at he;obtain ⟨u,rfl,hu⟩:=he;refine ⟨.inl hk1,?_⟩;have hu':=hu;obtain ⟨au,cu,rfl,_,_⟩:=hu';refine rV τok (rg 14 7) 0 (mR 21 21) hk1 ?_;refine dV ?_;refine st (hJb.kp hk1 (by simp)) (by simp) rfl fun w2 h2 hs2 hk2=>?_;refine st h2 (by simp) rfl fun w3 h3 hs3 hk3=>?_;have k13:Kp [bj] w1 w3:=hk2.tq hk3;have tr3:∀ b o v,Im X w1 b o v -> Im X w3 b o v:=fun b o v h=>h.kp k13 fun y hy _=>by
   obtain rfl:y = bj:=by simpa using hy
   exact hbj
  have h3:Bk w3.heap bj [iV B.vars,v1,v2,iV B.nat,v3,.slice ac (cx.map bdR).length cc,iV (q.2:Int),iV 0] 190:=h3;exact ⟨⟨_,rfl,hu.mono tr3,v1,v2,v3,_,h3,hO.mono fun _ _ _ h=>tr3 _ _ _ (tr1 _ _ _ h),hE.mono fun _ _ _ h=>tr3 _ _ _ (tr1 _ _ _ h),hP.mono fun _ _ _ h=>tr3 _ _ _ (tr1 _ _ _ h),hC.mono fun _ _ _ h=>tr3 _ _ _ (tr1 _ _ _ h)⟩,(hk1.weak (by simp)).tq k13⟩
 | error er =>
  rw [hr] at he;simp only at he;subst he;refine ⟨.inl hk1,?_⟩;have her:=gW' _ _ _ _ _ hr;refine rV τok (rg 14 7) 0 (mR 21 21) hk1 ?_;refine dV ?_;refine st (hJb.kp hk1 (by simp)) (by simp) rfl fun w2 h2 hs2 hk2=>?_;refine st h2 (by simp) rfl fun w3 h3 hs3 hk3=>?_;have k13:Kp [bj] w1 w3:=hk2.tq hk3;have tr3:∀ b o v,Im X w1 b o v -> Im X w3 b o v:=fun b o v h=>h.kp k13 fun y hy _=>by
   obtain rfl:y = bj:=by simpa using hy
   exact hbj
  have h3:Bk w3.heap bj [iV B.vars,v1,v2,iV B.nat,v3,.slice ac (cx.map bdR).length cc,iV 0,iV er] 190:=h3;refine ⟨⟨?_,by omega,v1,v2,v3,_,h3,hO.mono fun _ _ _ h=>tr3 _ _ _ (tr1 _ _ _ h),hE.mono fun _ _ _ h=>tr3 _ _ _ (tr1 _ _ _ h),hP.mono fun _ _ _ h=>tr3 _ _ _ (tr1 _ _ _ h),hC.mono fun _ _ _ h=>tr3 _ _ _ (tr1 _ _ _ h)⟩,(hk1.weak (by simp)).tq k13⟩;show Ending.returned (.tuple #[_,.bool (decide (er = 0))]) = _;rw [decide_eq_false (by omega)]
end
section
variable {α:Type} {R:Rd α} {C:Mem} {w w':World} {l m:List α}
theorem pp' {e:Nat} {v:Value} {css:List (List Value)} (h:w'.ownsRow w.heap.size e R.sz v l.length css.flatten) (hd:All2 (R.den C) css l) (hl:l.length <= 1099511627776):SV R (Cn C w w') l v:=by
 have hlen:=hd.length;have hk:∀ cs ∈ css,cs.length = R.sz:=by
  intro cs hcs;obtain ⟨i,hi⟩:=JH hcs;have hil:=ai' hi;obtain ⟨cs',h4,h5⟩:=hd.get (i:=i) (a:=l[i]'(by omega)) (by simp);rw [hi] at h4;obtain rfl:=JB h4;exact R.len h5
 rcases h.2 with ⟨rfl,h0⟩ | ⟨g,cap,cur,rfl,hb,hg,hn,hm,hc,ht⟩
 ·have:l = []:=List.length_eq_zero_iff.1 h0
  subst this;exact SV.nil _ _
 ·refine ⟨some ⟨g,0,none⟩,cap,rfl,⟨hl,.inr ⟨g,0,rfl,fun i x hx=>?_⟩⟩,hn⟩
  obtain ⟨cs,h4,h5⟩:=hd.get hx;refine ⟨cs,R.mono (fun b o u hu=>.inl hu) h5,fun j u hu=>.inr ⟨hb,cur,e,hg,?_⟩⟩;have:=eN' css hk i j cs u h4 hu;rw [<- ht,List.getElem?_take] at this;split at this
  ·rw [KW]; simpa using this
  ·cases this
theorem fb' {css:List (List Value)} (hd:All2 (R.den C) css l):css.flatten.length = l.length * R.sz /\ ∀ u ∈ css.flatten,u.oneCell' = true:=by
 have hlen:=hd.length;have each:∀ cs ∈ css,∃ x,R.den C cs x:=by
  intro cs hcs;obtain ⟨i,hi⟩:=JH hcs;have hil:=ai' hi;obtain ⟨cs',h4,h5⟩:=hd.get (i:=i) (a:=l[i]'(by omega)) (by simp);rw [hi] at h4;obtain rfl:=JB h4;exact ⟨_,h5⟩
 refine ⟨by rw [iP' css fun cs hcs=>R.len (each cs hcs).choose_spec,hlen],fun u hu=>?_⟩;obtain ⟨cs,hcs,hu⟩:=List.mem_flatten.1 hu;exact R.one (each cs hcs).choose_spec u hu
theorem fF' {css:List (List Value)} (hd:All2 (R.den C) css l) {b o:Nat} (hpos:0 < R.sz) (h:∀ i x j u,css[i]? = some x -> x[j]? = some u -> C b (o + i * R.sz + j) u) (hS:Sub C w):∀ j u,css.flatten[j]? = some u -> w.cell? ⟨b,o + j,none⟩ = some u:=by
 intro j u hj;have hlen:=hd.length;have hfl:=(fb' hd).1;have hjl:=ai' hj;have hk:∀ cs ∈ css,cs.length = R.sz:=by
  intro cs hcs;obtain ⟨i,hi⟩:=JH hcs;have hil:=ai' hi;obtain ⟨cs',h4,h5⟩:=hd.get (i:=i) (a:=l[i]'(by omega)) (by simp);rw [hi] at h4;obtain rfl:=JB h4;exact R.len h5
 have hdm:j / R.sz * R.sz + j % R.sz = j:=by rw [Nat.mul_comm]; exact Nat.div_add_mod j R.sz
 have hi:j / R.sz < css.length:=by
  rw [Nat.div_lt_iff_lt_mul hpos,hlen,<- hfl];exact hjl
 obtain ⟨cs,hcs,_⟩:=af' hi;have hm:j % R.sz < cs.length:=by rw [hk cs (JQ hcs)]; exact Nat.mod_lt _ hpos
 obtain ⟨u',hu',_⟩:=af' hm;have:=eN' css hk (j / R.sz) (j % R.sz) cs u' hcs hu';rw [hdm,hj] at this;obtain rfl:=JB this;have hc:=h _ _ _ _ hcs hu';rw [Nat.add_assoc,hdm] at hc;exact (hS _ _ _ hc).cell
theorem tE' {D:Mem} (hden:∀ cs x,R.den C cs x -> R.den D cs x) {P:Program} {τ:Tau} (hτ:ax' P τ) {T e bs:Nat} (hs:Go.Wx.look τ.slcs T = some (e,R.sz,bs)) {z:List Value} (hz:τ.zero e = some z) (hpos:0 < R.sz) {k:Value -> World -> Prop} {c ty:Nat} {a a':Option Addr}
  (hS:Sub C w) (hl:Sl R C a l) (hm:Sl R C a' m) (h0:0 < m.length) (hbytes:(l.length + m.length) * bs <= 140737488355328) (h63:l.length + m.length <= maxLen) (hlm:l.length + m.length <= 1099511627776)
  (hk:∀ v' w',SV R (Cn D w w') (l ++ m) v' -> Kp [] w w' -> k v' w'):EvRun P (Builtin.append_ #[T,T] ty #[.slice a l.length l.length,.slice a' m.length c]) w k:=by
 obtain ⟨hu,inf,hinf,hsize,hbs⟩:=hτ.slcs T e R.sz bs hs;obtain ⟨inf',v0,hinf',hv,hcz,hsz'⟩:=du' hτ hz;have:inf' = inf:=by rw [hinf'] at hinf; simpa using hinf
 subst this;have hzs:v0.cells.size = R.sz:=by rw [hcz,<- hsize,hsz']; simp
 obtain ⟨b',o',rfl,hc'⟩:=hm.at (i:=0) h0;obtain ⟨css',h3',h4'⟩:=eO' m o' hc';obtain ⟨f1',f2'⟩:=fb' h3';have f3':=fF' h3' hpos h4' hS;have hadd:∀ (b o j:Nat),(⟨b,o,none⟩:Addr).add j = ⟨b,o + j,none⟩:=fun b o j=>dO' b o j;have hll:(l ++ m).length = l.length + m.length:=by simp
 cases a with
 | none =>
  obtain rfl:=hl.none_nil;have hO:Own R e w.heap.size w (.slice none 0 0) ([]:List α):=Own.nil _ _ (KJ _);refine ap hτ hs hz hpos w.heap.size (v:=.slice none 0 0) (n:=0) (xs:=[]) ⟨by simp,.inl ⟨rfl,rfl⟩⟩ css'.flatten f1' (.inr ⟨b',o',rfl,fun j u hj=>Cl.of (f3' j u hj)⟩) f2' (by simpa using hbytes) (by simpa using h63) (KJ _) fun v' w' ho hk'=>?_;refine hk v' w' ?_ (by simpa [Value.ownBlock] using hk');rw [List.nil_append] at ho ⊢;exact pp' (by simpa using ho) (h3'.mono hden) (by simp at hlm; omega)
 | some ad =>
  have key:∃ css:List (List Value),All2 (R.den C) css l /\ ∀ j u,css.flatten[j]? = some u -> w.cell? (ad.add j) = some u:=by
   rcases hl.2 with h0 | ⟨b,o,hab,h2⟩
   ·have:l = []:=List.length_eq_zero_iff.1 h0
    subst this;exact ⟨[],trivial,fun j u hj=>by simp at hj⟩
   ·obtain rfl:=JB hab
    obtain ⟨css,h3,h4⟩:=eO' l o h2;refine ⟨css,h3,fun j u hj=>?_⟩;rw [hadd];exact fF' h3 hpos h4 hS j u hj
  obtain ⟨css,h3,h4⟩:=key;obtain ⟨f1,f2⟩:=fb' h3;obtain ⟨v',w',hr,ho,hg⟩:=run_append_arg_grows (P:=P) w T ty e inf' v0 R.sz bs hu hinf hv hsize hbs hzs hpos ad l.length l.length css.flatten f1 h4 ⟨b',o',none⟩ m.length c css'.flatten f1' (fun j u hj=>by rw [hadd]; exact f3' j u hj) (by omega) h63 hbytes;refine run hr (hk v' w' ?_ (by simpa using gm' hg));rw [<- List.flatten_append,<- hll] at ho;exact pp' ho ((h3.append h3').mono hden) (by rw [hll]; exact hlm)
theorem su' {P:Program} {τ:Tau} (hτ:ax' P τ) {T e bs:Nat} (hs:Go.Wx.look τ.slcs T = some (e,R.sz,bs)) {z:List Value} (hz:τ.zero e = some z) (hpos:0 < R.sz) {k:Value -> World -> Prop} {c ty:Nat} {a a':Option Addr}
  (hS:Sub C w) (hl:Sl R C a l) (hm:Sl R C a' m) (h0:0 < m.length) (hbytes:(l.length + m.length) * bs <= 140737488355328) (h63:l.length + m.length <= maxLen) (hlm:l.length + m.length <= 1099511627776)
  (hk:∀ v' w',SV R (Cn C w w') (l ++ m) v' -> Kp [] w w' -> k v' w'):EvRun P (Builtin.append_ #[T,T] ty #[.slice a l.length l.length,.slice a' m.length c]) w k :=
 tE' (fun _ _ h=>h) hτ hs hz hpos hS hl hm h0 hbytes h63 hlm hk
end
def uz' (X:List Nat) (w:World) (bj:Nat) (B:BoT) (cx:Ctx) (r:Except Int (Bool × Nat)) (e:Ending) (w':World):Prop :=
 (match r with
  | .ok q=>e = .returned (.bool q.1) /\ CmpC (Im X w') w' bj B cx q.2 0
  | .error er=>e = .returned (.bool false) /\ er ≠ 0 /\ ∃ m:Int,CmpC (Im X w') w' bj B cx m er) /\ Kp [bj] w w'
def pq' (B:BoT) (g:Nat) (rc:RcC):Prop:=∀ (X:List Nat) (w:World) (bj:Nat) (cx:Ctx) (x y:Tr) (u:Bool) (n:Nat) (vx vy:Value),(XL X w) -> bj ∈ X -> CxOk B cx -> cx.length <= 260 -> CmpC (Im X w) w bj B cx n 0 ->
 Ft (QB B) (cx.length:Int) x -> Ft (QB B) (cx.length:Int) y -> n <= g -> n <= 100000 -> TmV (Im X w) x vx -> TmV (Im X w) y vy ->
 CC 120 #[pt bj,vx,vy,.bool u] w (uz' X w bj B cx (rc cx x y u n))
theorem Im.kb {X:List Nat} {w w':World} {bj:Nat} (k:Kp [bj] w w') (hbj:bj ∈ X):∀ b o v,Im X w b o v -> Im X w' b o v:=fun b o v h=>h.kp k fun y hy _=>by
 obtain rfl:y = bj:=by simpa using hy
 exact hbj
section
variable {B:BoT} {g:Nat} {rc:RcC} {cx:Ctx} {X:List Nat} {w:World} {bj:Nat} {n:Nat}
theorem sv' (hrc:pq' B g rc) (hle:st' rc) (hX:XL X w) (hbj:bj ∈ X) (hcx:CxOk B cx) (hcl:cx.length <= 260) (hJ:CmpC (Im X w) w bj B cx n 0) (hn:n <= g) (hn1:n <= 100000) {xs ys:List Tr} (hxs:∀ x ∈ xs,Ft (QB B) (cx.length:Int) x) (hys:∀ x ∈ ys,Ft (QB B) (cx.length:Int) x) (hl:xs.length = ys.length) (hl1:xs.length <= 100000)
  {vx vy:Value} (hvx:TmsV (Im X w) xs vx) (hvy:TmsV (Im X w) ys vy) :
  CC 143 #[pt bj,vx,vy] w (uz' X w bj B cx (jp' rc cx xs ys n)):=by
 refine oF Tryz.func143 ?_;obtain ⟨RES,hRES⟩:∃ r,jp' rc cx xs ys n = r:=⟨_,rfl⟩
 rw [hRES];have hvx':=hvx;have hvy':=hvy;obtain ⟨ax,cx',rfl,_,_⟩:=hvx;obtain ⟨ay,cy,rfl,_,_⟩:=hvy;refine cO (args:=[_,_,_]) 25 [.tmp 6] τok Tryz.func143 ?_;refine lp τok (σ:=Nat × Nat) (fun q=>[(0,pt bj),(1,.slice ax xs.length cx'),(2,.slice ay ys.length cy),(9,iV (xs.length:Int)),(10,iV (q.1:Int))])
  (fun q w'=>q.1 <= xs.length /\ q.2 <= n /\ CmpC (Im X w') w' bj B cx q.2 0 /\ Kp [bj] w w' /\ jp' rc cx (xs.drop q.1) (ys.drop q.1) q.2 = RES) (fun q=>xs.length - q.1) (0,n) rfl
  ⟨rfl,rfl,rfl,rfl,rfl,trivial⟩ ⟨KV _,KJ _,hJ,Kp.refl _ _,hRES⟩ ?_
 rintro ⟨i,m⟩ w1 ⟨hi,hm,hJ1,hk1,hres⟩;simp only at hi hm hJ1 hres;refine ac' (fun h=>?_) (fun h=>?_)
 ·have h:(i:Int) < xs.length:=h
  obtain ⟨x,hx,hd⟩:=af' (l:=xs) (k:=i) (by omega);obtain ⟨y,hy,hd'⟩:=af' (l:=ys) (k:=i) (by omega);rw [hd,hd'] at hres;simp only [jp'] at hres;have tr1:=Im.kb hk1 hbj;obtain ⟨bx,ox,c1,e1,z,hz,hzT⟩:=(hvx'.mono tr1).get hx;obtain ⟨by_,oy,c2,e2,z',hz',hzT'⟩:=(hvy'.mono tr1).get hy;injection e1 with q1 q2 q3
  injection e2 with q4 q5 q6
  subst q1 q3 q4 q6;have hX1:=xU hX hk1;refine as' τok (fun z=>Kp [bj] w1 z) ?_;refine rV τok (rg 0 9) 2 (mR 11 9) ((Kp.refl [bj] w1).dr _) ?_;refine ix i rfl (by omega) ?_;refine ldI hbj hz ?_;refine ix i rfl (by omega) ?_;refine ldI hbj hz' ?_;refine nV τok 9 1 (mR 11 10) ?_;refine ab' (hrc X (dr w1) bj cx x y false m z z' hX1 hbj hcx hcl hJ1 (hxs x (JQ hx)) (hys y (JQ hy)) (by omega) (by omega) hzT hzT') ?_;rintro e w2 ⟨he,hk2⟩;have hk2:Kp [bj] w1 w2:=hk2.rd;have k02:Kp [bj] w w2:=hk1.tq hk2;cases hr:rc cx x y false m with
  | error er =>
   rw [hr] at he hres;obtain ⟨rfl,her,j,hJ2⟩:=he;refine ⟨.inl hk2,?_⟩;refine rV τok [10] 0 (mR 11 11) hk2 ?_;refine dV ?_;simp only [fr'] at hres;subst hres;exact ⟨⟨rfl,her,j,hJ2⟩,k02⟩
  | ok q =>
   obtain ⟨b,m2⟩:=q;rw [hr] at he hres;obtain ⟨rfl,hJ2⟩:=he;have hm2:=hle _ _ _ _ _ _ hr;simp only at hm2 hJ2;refine ⟨.inl hk2,?_⟩;refine rV τok [10] 0 (mR 11 11) hk2 ?_;refine dV ?_;cases b with
   | false =>
    simp only [fr'] at hres;rw [if_neg (by decide)] at hres;subst hres;exact ⟨⟨rfl,hJ2⟩,k02⟩
   | true =>
    simp only [fr',if_true] at hres;refine i6 ?_;exact ⟨(i + 1,m2),by simp only; omega,rfl,⟨rfl,rfl,rfl,rfl,rfl,trivial⟩,by show i + 1 <= _; omega,by simp only; omega,hJ2,k02,hres⟩
 ·have h:¬ (i:Int) < xs.length:=h
  rw [JY (by omega),JY (by omega)] at hres;simp only [jp'] at hres;subst hres;exact ⟨⟨rfl,hJ1⟩,hk1⟩
theorem ns' {w:World} {b5 b11 bj T5 T11 T:Nat} {v4:Value} {cs:List Value} (h5:Bk w.heap b5 [pt bj] T5) (h11:Bk w.heap b11 [v4] T11) (hj:Bk w.heap bj cs T) (hl:cs.length = 8) (hv:v4.oneCell' = true) :
  CallsD Tryz.prog 161 #[pt b11,pt b5] .returning w fun e u' w'=>(∃ v,e = .returned v) /\ u' = .returning /\ Bk w'.heap bj (cs.set 5 v4) T /\ Kp [bj] w w':=by
 refine callsD_of_wpS Tryz.func161 rfl fun c₀ cs' hu=>?_;refine wpS_of_wp (Go.wp_mono (aX' τok (n:=6) _ ⟨[(0,pt b11),(1,pt b5)],[]⟩ _ (fun e s w'=>e = .normal /\ s.d = [] /\ Bk w'.heap bj (cs.set 5 v4) T /\ Kp [bj] w w') ?_ _ (ll' (by simp) rfl ?_)) ?_)
 ·refine lb h5 ?_
  refine lb h11 ?_;refine st (b:=bj) (o:=5) hj (by omega) hv fun w2 h2 hs2 hk2=>?_;exact ⟨rfl,rfl,h2,hk2⟩
 ·intro q hq
  simp only [JJ,JZ,or_false] at hq;rcases hq with rfl | rfl <;> simp
 ·rintro e a' w' ⟨s,hF,rfl,hd,hk⟩
  exact qI' hF hd rfl hu ⟨⟨_,rfl⟩,rfl,hk⟩
theorem ho' (hrc:pq' B g rc) (hX:XL X w) (hbj:bj ∈ X) (hJ:CmpC (Im X w) w bj B cx n 0) (hn:n <= g) (hn1:n <= 100000) {mo:Ctx} (hmo:0 < mo.length) (hcx:CxOk B (cx ++ mo)) (hcl:(cx ++ mo).length <= 260) {x y:Tr} (hx:Ft (QB B) ((cx ++ mo).length:Int) x) (hy:Ft (QB B) ((cx ++ mo).length:Int) y)
  {vm vx vy:Value} (hvm:SV rBd (Im X w) (mo.map bdR) vm) (hvx:TmV (Im X w) x vx) (hvy:TmV (Im X w) y vy) (u:Bool) :
  CC 156 #[pt bj,vm,vx,vy,.bool u] w (uz' X w bj B cx (rc (cx ++ mo) x y u n)):=by
 refine oF Tryz.func156 ?_;obtain ⟨RES,hRES⟩:∃ r,rc (cx ++ mo) x y u n = r:=⟨_,rfl⟩
 rw [hRES];obtain ⟨v1,v2,v3,v4,hJb,hO,hE,hP,hC⟩:=hJ;have hbl:=hX bj hbj;have hmm:=hvm;have hCC:=hC;obtain ⟨am,cm,rfl,hm1,hm2⟩:=hmm;obtain ⟨ac,cc,rfl,hc1,hc2⟩:=hCC;obtain ⟨ax,cx1,rfl,_,_⟩:=id hvx;obtain ⟨ay,cy1,rfl,_,_⟩:=id hvy;refine ef' (args:=[_,_,_,_,_]) 29 [.tmp 10] τok Tryz.func156 rfl rfl rfl (Nat.le_of_ble_eq_true rfl) ?_;refine new fun b5 w1 hb5 h5 hs1 hk1=>?_;have h5:Bk w1.heap b5 [pt bj] 188:=h5;refine lb h5 ?_;refine lb (hJb.kp hk1 (by simp)) ?_;refine new fun b11 w2 hb11 h11 hs2 hk2=>?_;refine st (b:=b11) (o:=0) h11 (by simp) rfl fun w3 h11 hs3 hk3=>?_;have h11:Bk w3.heap b11 [.slice ac (cx.map bdR).length cc] 27:=h11;have k13:=hk2.newSt hb11 hk3;have k03:=hk1.tr k13;have h5:=h5.kp k13 (by simp);have hJ3:=hJb.kp k03 (by simp);have tr3:∀ b o v,Im X w b o v -> Im X w3 b o v:=fun b o v h=>h.tr k03;have hlm:(mo.map bdR).length <= 260:=by simp at hcl ⊢; omega
 have hlc:(cx.map bdR).length <= 260:=by simp at hcl ⊢; omega
 have hne5:b5 ≠ bj:=by omega
 have hne11:b11 ≠ bj:=by have:=hk1.size; omega
 have hlt5:w.heap.size <= b5:=by omega
 have hlt11:w.heap.size <= b11:=by have:=hk1.size; omega
 refine as' τok (fun z=>Kp [] w3 z) ?_;refine rV τok [0,1,3] 5 (mB 8 [2,4,5,6,7]) (kQd w3) ?_;refine lk h5 ?_;refine lk h11 ?_;refine nV τok 2 4 (mR 8 4) ?_;refine ab' (ri' (R:=rBd) rfl (C:=Im X w) (cx.map bdR) ac cc hc1 hc2) ?_;rintro e w4 ⟨⟨a4,rfl,hc4⟩,hk4⟩;have hk4:Kp [] w3 w4:=hk4.rd;refine ⟨.inl hk4,?_⟩;refine nV τok 4 3 (mR 8 5) ?_;refine su' τok rfl rfl (by decide) (R:=rBd) (C:=Im X w) (Sub.tr (Im.sub X w) (k03.tr hk4)) hc4 hm1 (by simpa using hmo) (by omega) (by unfold maxLen; omega) (by omega) fun v' w5 hv' hk5=>?_;have k35:=hk4.tr hk5;refine ⟨.inl k35,?_⟩;rw [<- List.map_append] at hv';have hv1:=hv'.one;refine rV τok [5,6] 1 (mR 8 7) k35 ?_;refine nV τok 7 0 (mR 8 8) ?_;refine st (b:=bj) (o:=5) (hJ3.kp k35 (by simp)) (by simp) hv1 fun w6 h6 hs6 hk6=>?_;refine ⟨.inr (by kernel_rfl),?_⟩;refine dV ?_;have h6:Bk w6.heap bj [iV B.vars,v1,v2,iV B.nat,v3,v',iV (n:Int),iV 0] 190:=h6;have k05:=k03.tr k35;have k06:Kp [bj] w w6:=(k05.weak (by simp)).tq hk6;have hX4:XL X w4:=fun b hb=>KZ (hX b hb) (k03.tr hk4).size;have tr6:=Im.kb k06 hbj;have h56:=h5.kp k35 (by simp);have h56:=h56.kp hk6 (by simpa using hne5);have h116:=(h11.kp k35 (by simp)).kp hk6 (by simpa using hne11);refine lb h56 ?_;have hX6:=xU hX k06;have hJ6:CmpC (Im X w6) w6 bj B (cx ++ mo) n 0:=⟨v1,v2,v3,v',h6,hO.mono tr6,hE.mono tr6,hP.mono tr6,hv'.mono fun b o v h=>h.elim (tr6 b o v) fun h=>Im.kb hk6 hbj _ _ _ (Im.of_new hX4 h)⟩
 refine ab' (hrc X w6 bj (cx ++ mo) x y u n _ _ hX6 hbj hcx hcl hJ6 hx hy hn hn1 (hvx.mono tr6) (hvy.mono tr6)) ?_;rintro e w7 ⟨he,hk7⟩;have k07:Kp [bj] w w7:=k06.tq hk7;have h57:=h56.kp hk7 (by simpa using hne5);have h117:=h116.kp hk7 (by simpa using hne11);have fin:∀ {m er:Int},CmpC (Im X w7) w7 bj B (cx ++ mo) m er -> CallsD Tryz.prog 161 #[pt b11,pt b5] .returning w7 fun e u' w8=>(∃ v,e = .returned v) /\ u' = .returning /\ CmpC (Im X w8) w8 bj B cx m er /\ Kp [bj] w w8:=fun {m er} h=>by
  obtain ⟨u1,u2,u3,u4,hb,g1,g2,g3,g4⟩:=h;refine (ns' h57 h117 hb rfl rfl).mono ?_;rintro e u' w8 ⟨h1,h2,h3,h4⟩;have tr8:=Im.kb h4 hbj;have k08:Kp [bj] w w8:=k07.tq h4;exact ⟨h1,h2,⟨u1,u2,u3,_,h3,g1.mono tr8,g2.mono tr8,g3.mono tr8,hC.mono (Im.kb k08 hbj)⟩,k08⟩
 cases RES with
 | error er =>
  rw [hRES] at he;obtain ⟨rfl,her,m,hJ7⟩:=he;refine ⟨_,_,_,161,#[pt b11,pt b5],rfl,by simp,by simp [go_sem],(fin hJ7).mono ?_⟩;rintro e u' w8 ⟨h1,rfl,h3,h4⟩;exact ⟨h1,rfl,⟨rfl,her,m,h3⟩,h4⟩
 | ok q =>
  rw [hRES] at he;obtain ⟨rfl,hJ7⟩:=he;refine ⟨_,_,_,161,#[pt b11,pt b5],rfl,by simp,by simp [go_sem],(fin hJ7).mono ?_⟩;rintro e u' w8 ⟨h1,rfl,h3,h4⟩;exact ⟨h1,rfl,⟨rfl,h3⟩,h4⟩
end
theorem CxOk.app {B:BoT} {c mo:Ctx} (h:CxOk B c) (hm:∀ (i:Nat) q,mo[i]? = some q -> Ft (QB B) ((c.length + i:Nat):Int) q.1 /\ ∀ x,q.2 = some x -> Ft (QB B) ((c.length + i:Nat):Int) x):CxOk B (c ++ mo):=fun i q hq=>by
 by_cases hi:i < c.length
 ·rw [List.getElem?_append_left hi] at hq
  exact h i q hq
 ·rw [List.getElem?_append_right (by omega)] at hq
  have:=hm _ q hq
  rwa [show c.length + (i - c.length) = i by omega] at this
theorem bt' {Q:Nd -> Prop} {N:Int} {x:Tr} (h:Ft Q N x) (h12:x.n.op = 12) {i:Nat} (hi:i < x.n.b.toNat) :
  (kidsT x)[2 * i]? = some (kidD x (2 * i)) /\ (kidsT x)[2 * i + 1]? = some (kidD x (2 * i + 1)) /\ Ft Q N (kidD x (2 * i)) /\ Ft Q (N + x.n.b) (kidD x (2 * i + 1)):=by
 have hk:=bg' h.ok h12;obtain ⟨h1,h2⟩:=h.kidD (k:=2 * i) (by omega);obtain ⟨h3,h4⟩:=h.kidD (k:=2 * i + 1) (by omega);have e1:kb x.n (2 * i) = 0:=by unfold kb; rw [if_pos h12,if_neg (by omega)]
 have e2:kb x.n (2 * i + 1) = x.n.b:=by unfold kb; rw [if_pos h12,if_pos (by omega)]
 rw [e1,Int.add_zero] at h2;rw [e2] at h4;exact ⟨h1,h3,h2,h4⟩
theorem dm' {f:Tr} {i:Nat} (hi:i < f.n.b.toNat):(aI' f)[i]? = some (aq' (kidD f (2 * i)) i 0,none):=by
 unfold aI';rw [JX,List.getElem?_range hi]
 rfl
theorem aK' (f:Tr):(aI' f).length = f.n.b.toNat:=by simp [aI']
theorem fc' {B:BoT} {cx:Ctx} {f:Tr} (h:CxOk B cx) (hN:cx.length <= 90000) (hf:Ft (QB B) (cx.length:Int) f) (h12:f.n.op = 12):CxOk B (cx ++ aI' f):=by
 have hl:=aG' hf.ok h12;refine h.app fun i q hq=>?_;have hi:=ai' hq;rw [aK'] at hi;rw [dm' hi] at hq;obtain rfl:=JB hq;obtain ⟨_,_,h3,_⟩:=bt' hf h12 hi;have:=h3.lift (qk B) (b:=(i:Int)) (by omega) (by omega) (by omega);exact ⟨by simpa using this,fun x hx=>by cases hx⟩
section
variable {B:BoT} {g:Nat} {rc:RcC} {cx:Ctx} {X:List Nat} {w:World} {bj:Nat} {n:Nat}
theorem ru' (hrc:pq' B g rc) (hle:st' rc) (hX:XL X w) (hbj:bj ∈ X) (hcx:CxOk B cx) (hcl:cx.length <= 256) (hJ:CmpC (Im X w) w bj B cx n 0) (hn:n <= g) (hn1:n <= 100000) {f h:Tr} (hf:Ft (QB B) (cx.length:Int) f) (hh:Ft (QB B) (cx.length:Int) h) (f12:f.n.op = 12) (hfh:f.n = h.n)
  {vf vh va vb:Value} (hvf:TmV (Im X w) f vf) (hvh:TmV (Im X w) h vh) (hva:TmsV (Im X w) (kidsT f) va) (hvb:TmsV (Im X w) (kidsT h) vb) :
  CC 157 #[pt bj,vf,vh,va,vb] w (uz' X w bj B cx (hj' rc cx f h n)):=by
 refine oF Tryz.func157 ?_;obtain ⟨RES,hRES⟩:∃ r,hj' rc cx f h n = r:=⟨_,rfl⟩
 rw [hRES];unfold hj' at hRES;have h12:h.n.op = 12:=by rw [<- hfh]; exact f12
 have hl:=aG' hf.ok f12;have hkf:=bg' hf.ok f12;have hkh:=bg' hh.ok h12;rw [<- hfh] at hkh;obtain ⟨nb,hnb⟩:∃ nb:Nat,f.n.b = (nb:Int):=⟨f.n.b.toNat,by omega⟩
 have hnb':f.n.b.toNat = nb:=by omega
 have hva':=hva;have hvb':=hvb;obtain ⟨aa,ca,rfl,_,_⟩:=hva;obtain ⟨ab,cb,rfl,_,_⟩:=hvb;have hvf':=hvf;have hvh':=hvh;obtain ⟨af,cf,rfl,_,_⟩:=hvf;obtain ⟨ah,ch,rfl,_,_⟩:=hvh;have hcx':=fc' hcx (by omega) hf f12;have hcl':(cx ++ aI' f).length <= 260:=by rw [JK,aK']; omega
 have hcl'':(cx ++ aI' f).length = cx.length + nb:=by rw [JK,aK']; omega
 refine cO (args:=[_,_,_,_,_]) 76 [.tmp 10] τok Tryz.func157 ?_;refine ab' (kw' (Im.sub X w) hf f12 hvf') ?_;rintro e w1 ⟨ap,cp,rfl,hp1,hk1⟩;have tr1:∀ b o v,Im X w b o v -> Im X w1 b o v:=fun b o v h=>h.tr hk1;refine ab' (kw' (Im.sub X w1) hh h12 (hvh'.mono tr1)) ?_;rintro e w2 ⟨aq,cq,rfl,hq1,hk2⟩;have k02:=hk1.tr hk2;refine ab' (pm' (C:=New w.heap.size w2) (D:=New w1.heap.size w2) (New.sub _ _) (New.sub _ _) (placesM f) (placesM h) ap aq cp cq (hp1.mono fun b o v h=>⟨h.1,h.2.kp hk2 (by simp)⟩) hq1) ?_;rintro e w3 ⟨rfl,hk3⟩;have k03:=k02.tr hk3;have up0:∀ b o v,Im X w b o v -> Im X w3 b o v:=fun b o v h=>h.tr k03;have hJ3:CmpC (Im X w3) w3 bj B cx n 0:=(hJ.mono up0).kp k03 (by simp);have kw:∀ {w'},Kp [] w w' -> Kp [bj] w w':=fun k=>k.weak (by simp);refine iO' (fun g1=>?_) (fun g1=>?_);rotate_left
 ·have g1:¬ placesM f = placesM h:=g1
  rw [if_neg g1] at hRES;subst hRES;exact ⟨⟨rfl,hJ3⟩,kw k03⟩
 have g1:placesM f = placesM h:=g1;rw [if_pos g1] at hRES;have hX3:=xU hX k03;refine lp τok (σ:=Nat × Value) (fun q=>[(0,pt bj),(3,.slice aa (kidsT f).length ca),(4,.slice ab (kidsT h).length cb),(11,q.2),(12,iV ((2 * q.1:Nat):Int))])
  (fun q w'=>q.1 <= nb /\ Own rBd 35 w3.heap.size w' q.2 (((aI' f).map bdR).take q.1) /\ Kp [] w3 w') (fun q=>nb - q.1) (0,.slice none 0 0) rfl
  ⟨rfl,rfl,rfl,rfl,rfl,trivial⟩ ⟨KV _,Own.nil _ _ (KJ _),Kp.refl _ _⟩ ?_
 rintro ⟨i,v1⟩ w4 ⟨hi,hO,hk4⟩;simp only at hi hO;have k04:=k03.tr hk4;refine ac' (fun g2=>?_) (fun g2=>?_)
 ·have g2:((2 * i:Nat):Int) < (kidsT f).length:=g2
  have hi2:i < nb:=by omega
  obtain ⟨e1,e2,h1,h2⟩:=bt' hf f12 (i:=i) (by omega);have tr4:∀ b o v,Im X w b o v -> Im X w4 b o v:=fun b o v h=>h.tr k04;obtain ⟨bk,ok,ck,e3,z,hz,hzT⟩:=(hva'.mono tr4).get e1;injection e3 with q1 q2 q3
  subst q1 q3;refine ix (2 * i) rfl (by omega) ?_;refine ldC (Im.sub X w4) hz ?_;refine vU' (by omega) (by omega) (by omega) ?_;have hq:((2 * i:Nat):Int) / 2 = (i:Int):=by omega
  rw [hq];refine ab' (dG' (Im.sub X w4) (fun _ _ _ h=>h.hold) h1 (by omega) hzT (b:=(i:Int)) (by omega)) ?_;rintro e w5 ⟨u5,rfl,hT5,hk5⟩;obtain ⟨t,ht⟩:∃ t,aq' (kidD f (2 * i)) i 0 = t:=⟨_,rfl⟩
  rw [ht] at hT5;have hu5:=hT5;obtain ⟨a5,c5,rfl,hT5',hT5c⟩:=hu5;refine fill [.slice a5 (row t).length c5,.slice none 0 0] rfl ?_;refine new fun b6 w6 hb6 h6 hs6 hk6=>?_;have hO6:=(hO.kp hk5).kp hk6;have hty:((aI' f).map bdR)[i]? = some (row t,[]):=by rw [JX,dm' (by omega),ht]; rfl
  have hll:(((aI' f).map bdR).take i).length = i:=by
   rw [List.length_take,List.length_map,aK'];omega
  refine hO6.ap1 τok rfl rfl (by decide) (row t,[]) [.slice a5 (row t).length c5,.slice none 0 0] ⟨_,_,rfl,⟨a5,c5,rfl,hT5'.mono (uJ' hO hk6),hT5c⟩,SV.nil _ _⟩ (bZ h6) (by rw [hll]; omega) (by rw [hll]; unfold maxLen; omega) fun v7 w7 hO7 hk7 _=>?_;refine i6 ?_;refine ⟨(i + 1,v7),by simp only; omega,rfl,⟨rfl,rfl,rfl,rfl,?_,trivial⟩,by show i + 1 <= _; omega,?_,((hk4.tr hk5).tr hk6).own hk7 hO6⟩
  ·show some (iV _) = some (iV ((2 * (i + 1):Nat):Int))
   congr 3
  ·rw [al' hty]
   exact hO7
 have g2:¬ ((2 * i:Nat):Int) < (kidsT f).length:=g2;have hi3:i = nb:=by omega
 subst hi3;have hbl:((aI' f).map bdR).length = i:=by rw [List.length_map,aK',hnb']
 rw [JG (by omega)] at hO;have hX4:=xU hX k04;have hty:SV rBd (Im X w4) ((aI' f).map bdR) v1:=by
  obtain ⟨a,c,rfl,hc⟩:=hO.cap;obtain ⟨a',c',e,hs⟩:=hO.den (by omega);injection e with q1 q2 q3
  subst q1 q3;exact ⟨a,c,rfl,hs.mono fun _ _ _ h=>Im.of_new hX3 h,hc⟩
 have hJ4:CmpC (Im X w4) w4 bj B cx n 0:=(hJ3.mono fun _ _ _ h=>h.tr hk4).kp hk4 (by simp);have tr4:∀ b o v,Im X w b o v -> Im X w4 b o v:=fun b o v h=>h.tr k04;have hva4:=hva'.mono tr4;have hvb4:=hvb'.mono tr4
 clear hva' hvb' hO
 refine lp τok (σ:=Nat × Nat) (fun q=>[(0,pt bj),(3,.slice aa (kidsT f).length ca),(4,.slice ab (kidsT h).length cb),(11,v1),(15,iV ((2 * q.1:Nat):Int))])
  (fun q w'=>q.1 <= i /\ q.2 <= n /\ CmpC (Im X w') w' bj B cx q.2 0 /\ Kp [bj] w4 w' /\ hY' rc cx (cx ++ aI' f) ((kidsT f).drop (2 * q.1)) ((kidsT h).drop (2 * q.1)) q.2 = RES) (fun q=>i - q.1) (0,n) rfl
  ⟨rfl,rfl,rfl,rfl,rfl,trivial⟩ ⟨KV _,KJ _,hJ4,Kp.refl _ _,hRES⟩ ?_
 rintro ⟨j,m⟩ w5 ⟨hj,hm,hJ5,hk5,hres⟩;simp only at hj hm hJ5 hres;have k05:Kp [bj] w w5:=(kw k04).tq hk5;refine ac' (fun g3=>?_) (fun g3=>?_)
 ·have g3:((2 * j:Nat):Int) < (kidsT f).length:=g3
  have hj2:j < i:=by omega
  obtain ⟨e1,e2,f1,f2⟩:=bt' hf f12 (i:=j) (by omega);obtain ⟨e3,e4,f3,f4⟩:=bt' hh h12 (i:=j) (by rw [<- hfh]; omega);rw [<- hfh] at f4;have hd1:(kidsT f).drop (2 * j) = kidD f (2 * j) :: kidD f (2 * j + 1) :: (kidsT f).drop (2 * (j + 1)):=by
   obtain ⟨x,hx,hd⟩:=af' (ai' e1);obtain ⟨y,hy,hd'⟩:=af' (ai' e2);rw [e1] at hx;rw [e2] at hy;obtain rfl:=JB hx;obtain rfl:=JB hy;rw [hd,hd']
   rfl
  have hd2:(kidsT h).drop (2 * j) = kidD h (2 * j) :: kidD h (2 * j + 1) :: (kidsT h).drop (2 * (j + 1)):=by
   obtain ⟨x,hx,hd⟩:=af' (ai' e3);obtain ⟨y,hy,hd'⟩:=af' (ai' e4);rw [e3] at hx;rw [e4] at hy;obtain rfl:=JB hx;obtain rfl:=JB hy;rw [hd,hd']
   rfl
  rw [hd1,hd2] at hres;simp only [hY'] at hres;have tr5:=Im.kb hk5 hbj;have hX5:=xU hX k05;obtain ⟨b1,o1,c1,p1,z1,hz1,hzT1⟩:=(hva4.mono tr5).get e1;obtain ⟨b2,o2,c2,p2,z2,hz2,hzT2⟩:=(hva4.mono tr5).get e2;obtain ⟨b3,o3,c3,p3,z3,hz3,hzT3⟩:=(hvb4.mono tr5).get e3;obtain ⟨b4,o4,c4,p4,z4,hz4,hzT4⟩:=(hvb4.mono tr5).get e4;injection p1 with q1 q2 q3
  subst q1 q3;injection p2 with q1 q2 q3
  injection q1 with q1
  injection q1 with q1 q4
  subst q1 q4;injection p3 with q1 q2 q3
  subst q1 q3;injection p4 with q1 q2 q3
  injection q1 with q1
  injection q1 with q1 q4
  subst q1 q4;obtain ⟨av1,cv1,rfl,hty1,hty2⟩:=id hty;refine as' τok (fun z=>Kp [bj] w5 z) ?_;refine rV τok (rg 0 9) 18 (mR 27 9) ((Kp.refl [bj] w5).dr _) ?_;refine ix (2 * j) rfl (by omega) ?_;refine ldI hbj hz1 ?_;refine ix (2 * j) rfl (by omega) ?_;refine ldI hbj hz3 ?_;refine nV τok 9 17 (mR 27 10) ?_;refine ab' (hrc X (dr w5) bj cx _ _ false m z1 z3 hX5 hbj hcx (by omega) hJ5 f1 f3 (by omega) (by omega) hzT1 hzT3) ?_;rintro e w6 ⟨he,hk6⟩;have hk6:Kp [bj] w5 w6:=hk6.rd;have k06:Kp [bj] w w6:=k05.tq hk6;cases hr:rc cx (kidD f (2 * j)) (kidD h (2 * j)) false m with
  | error er =>
   rw [hr] at he hres;obtain ⟨rfl,her,y,hJ6⟩:=he;refine ⟨.inl hk6,?_⟩;refine rV τok (rg 10 14) 3 (mR 27 24) hk6 ?_;refine nV τok 24 2 (mR 27 25) ?_;refine ⟨.inl hk6,?_⟩;refine rV τok [25,26] 0 (mR 27 27) hk6 ?_;refine dV ?_;simp only [fr'] at hres;subst hres;exact ⟨⟨rfl,her,y,hJ6⟩,k06⟩
  | ok q =>
   obtain ⟨b,m2⟩:=q;rw [hr] at he hres;obtain ⟨rfl,hJ6⟩:=he;have hm2:=hle _ _ _ _ _ _ hr;simp only at hm2 hJ6;refine ⟨.inl hk6,?_⟩;cases b with
   | false =>
    refine rV τok (rg 10 14) 3 (mR 27 24) hk6 ?_;refine nV τok 24 2 (mR 27 25) ?_;refine ⟨.inl hk6,?_⟩;refine rV τok [25,26] 0 (mR 27 27) hk6 ?_;refine dV ?_;simp only [fr'] at hres;rw [if_neg (by decide)] at hres;subst hres;exact ⟨⟨rfl,hJ6⟩,k06⟩
   | true =>
    simp only [fr',if_true] at hres;refine rV τok (rg 10 14) 3 (mR 27 24) hk6 ?_;refine i6 ?_;refine ix (2 * j + 1) (by omega) (by omega) ?_;refine ldI hbj hz2 ?_;refine i6 ?_;refine ix (2 * j + 1) (by omega) (by omega) ?_;refine ldI hbj hz4 ?_;have tr6:=Im.kb hk6 hbj;have hX6:=xU hX k06;have hN:cx.length + i = (cx ++ aI' f).length:=by omega
    rw [hnb] at f2 f4;have f2':Ft (QB B) ((cx ++ aI' f).length:Int) (kidD f (2 * j + 1)):=by rw [<- hN]; exact f2.mono (by omega)
    have f4':Ft (QB B) ((cx ++ aI' f).length:Int) (kidD h (2 * j + 1)):=by rw [<- hN]; exact f4.mono (by omega)
    have hmo:0 < (aI' f).length:=by rw [aK']; omega
    refine nV τok 24 2 (mR 27 25) ?_;refine ab' (ho' hrc hX6 hbj hJ6 (by omega) (by omega) hmo hcx' hcl' f2' f4' (hty.mono fun _ _ _ h=>tr6 _ _ _ (tr5 _ _ _ h)) (hzT2.mono tr6) (hzT4.mono tr6) false) ?_;rintro e w7 ⟨he,hk7⟩;have k57:Kp [bj] w5 w7:=hk6.tq hk7;have k07:Kp [bj] w w7:=k06.tq hk7;cases hr2:rc (cx ++ aI' f) (kidD f (2 * j + 1)) (kidD h (2 * j + 1)) false m2 with
    | error er =>
     rw [hr2] at he hres;obtain ⟨rfl,her,y,hJ7⟩:=he;refine ⟨.inl k57,?_⟩;refine rV τok [25,26] 0 (mR 27 27) k57 ?_;refine dV ?_;simp only at hres;subst hres;exact ⟨⟨rfl,her,y,hJ7⟩,k07⟩
    | ok q =>
     obtain ⟨b,m3⟩:=q;rw [hr2] at he hres;obtain ⟨rfl,hJ7⟩:=he;have hm3:=hle _ _ _ _ _ _ hr2;simp only at hm3 hJ7;refine ⟨.inl k57,?_⟩;refine rV τok [25,26] 0 (mR 27 27) k57 ?_;refine dV ?_;cases b with
     | false =>
      simp only at hres;rw [if_neg (by decide)] at hres;subst hres;exact ⟨⟨rfl,hJ7⟩,k07⟩
     | true =>
      simp only [if_true] at hres;refine i6 ?_;refine ⟨(j + 1,m3),by simp only; omega,rfl,⟨rfl,rfl,rfl,rfl,?_,trivial⟩,by show j + 1 <= _; omega,by simp only; omega,hJ7,hk5.tq k57,hres⟩;show some (iV _) = some (iV ((2 * (j + 1):Nat):Int))
      congr 3
 ·have g3:¬ ((2 * j:Nat):Int) < (kidsT f).length:=g3
  rw [JY (by omega),JY (by omega)] at hres;simp only [hY'] at hres;subst hres;exact ⟨⟨rfl,hJ5⟩,k05⟩
end
end Go.Proofs.YtpealcfjbcpoiaaGreat
