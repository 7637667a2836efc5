import Derived.Test.YtdfmgkaecdkhnaaGreatMt19
set_option linter.unusedVariables false
set_option linter.unusedSimpArgs false
set_option maxRecDepth 100000
set_option maxHeartbeats 4000000
namespace Go.Proofs.YtdfmgkaecdkhnaaGreat
open Go.Wx Cd Tm Lv
mutual
theorem fu':∀ (x:Tr) (s:Md),okT cnt nx x s -> ∀ m ∈ row x,ah' m = true
 | .mk n ks,s,h,m,hm=>by
  obtain ⟨h1,h2⟩:=h;simp only [row,JJ] at hm;rcases hm with rfl | hm
  ·cases s with
   | tm=>exact (bL' h1).1
   | fn =>
    simp only [cnt] at h1;split at h1
    ·rename_i q; exact q.2
    ·cases h1
   | am =>
    simp only [cnt] at h1;split at h1
    ·rename_i q; exact q.2
    ·cases h1
  ·exact lr' ks n s 0 h2 m hm
theorem lr':∀ (l:List Tr) (n:Nd) (s:Md) (k:Nat),okL cnt nx l n s k -> ∀ m ∈ rows l,ah' m = true
 | [],n,s,k,_,m,hm=>by simp [rows] at hm
 | y :: r,n,s,k,h,m,hm=>by
  obtain ⟨h1,h2⟩:=h;simp only [rows,JW] at hm;rcases hm with hm | hm
  ·exact fu' y _ h1 m hm
  ·exact lr' r n s (k + 1) h2 m hm
end
def ls' (B:BoT) (known:Nat) (self:Int) (l:List Nd) (below:Int):Int :=
 if bH' l ≠ 0 then bH' l else if iJ' (tr l) below = false then 8 else if l.any (fun m=>!cl' B known self m) = true then 8 else 0
def ct' (B:BoT) (known:Nat) (self step:Int):List (List Nd) -> Int -> Int
 | [],_=>0
 | l :: r,below=>if ls' B known self l below ≠ 0 then ls' B known self l below else ct' B known self step r (below + step)
def eM' (l:List Nd):Int:=if (l.getD 0 ⟨0,0,0⟩).op ≠ 2 then 8 else 0
def dK' (B:BoT) (i:Nat) (x:EnT):List CtT -> Int
 | []=>0
 | c :: r=>if 16 < c.args.length then 5 else if c.out.length ≠ x.indices.length then 8
  else if ct' B i i 1 c.args (x.params.length:Int) ≠ 0 then ct' B i i 1 c.args (x.params.length:Int)
  else if ct' B i i 0 c.out ((x.params.length:Int) + (c.args.length:Int)) ≠ 0 then ct' B i i 0 c.out ((x.params.length:Int) + (c.args.length:Int))
  else dK' B i x r
def bg' (a b:Int):Int:=if a ≠ 0 then a else b
def dg' (B:BoT) (i:Nat) (x:EnT):Int :=
 if x.kind = 1 then (if 0 < x.type.length + x.body.length then 8 else if 16 < x.params.length \/ 16 < x.indices.length \/ 16 < x.ctors.length then 5
  else bg' (ls' B i (-1) x.sort 0) (bg' (eM' x.sort) (bg' (ct' B i (-1) 1 x.params 0) (bg' (ct' B i (-1) 1 x.indices (x.params.length:Int)) (dK' B i x x.ctors)))))
 else if x.kind = 2 then (if 0 < x.sort.length + x.params.length + x.indices.length + x.ctors.length then 8 else ct' B i (-1) 0 [x.type,x.body] 0)
 else 8
def cg' (B:BoT):List EnT -> Nat -> Int
 | [],_=>0
 | x :: r,i=>bg' (dg' B i x) (cg' B r (i + 1))
def wo' (B:BoT) (a:Int):Bool :=
 if a < 0 \/ (B.ents.length:Int) <= a \/ (entD B a).kind ≠ 1 then false
 else if (entD B a).sort.length ≠ 2 \/ ((entD B a).sort.getD 0 ⟨0,0,0⟩).a ≠ 1 \/ (entD B a).sort.getD 1 ⟨0,0,0⟩ ≠ ⟨3,0,0⟩ \/ 0 < (entD B a).params.length + (entD B a).indices.length \/ (entD B a).ctors.length ≠ 2 then false
 else decide (((entD B a).ctors.getD 0 default).args.length = 0) && (decide (((entD B a).ctors.getD 1 default).args.length = 1) && (decide ((((entD B a).ctors.getD 1 default).args.getD 0 []).length = 1) && decide ((((entD B a).ctors.getD 1 default).args.getD 0 []).getD 0 ⟨0,0,0⟩ = ⟨9,a,0⟩)))
def ox' (B:BoT):List (Int × Int) -> G -> Bool
 | [],_=>true
 | p :: r,g=>if p.1 < 0 \/ (B.ents.length:Int) <= p.1 \/ (entD B p.1).kind ≠ 2 \/ p.2 < 1 \/ 3 < p.2 \/ 0 < (g p.1 (-1)).getD 0 + (g (-1) p.2).getD 0 then false else ox' B r (putG (putG g p.1 (-1) 1) (-1) p.2 1)
def sG' (B:BoT):Bool:=if (B.nat ≠ -1 /\ wo' B B.nat = false) \/ (B.nat = -1 /\ 0 < B.prims.length) then false else ox' B B.prims fun _ _=>none
def aM' (B:BoT):Int:=if hG' B.vars B.orders ≠ 0 then hG' B.vars B.orders else if 64 < B.ents.length then 5 else bg' (cg' B B.ents 0) (if sG' B = true then 0 else 22)
def bK' (B:BoT) (below:Int) (t:List Nd):Int:=if aM' B ≠ 0 then aM' B else if below < 0 then 1 else ls' B B.ents.length (-1) t below
def dL' (B:BoT):List (List Nd × List Nd) -> Nat -> Int
 | [],_=>0
 | q :: r,i=>if bK' B i q.1 ≠ 0 then bK' B i q.1 else if q.2.length = 0 then dL' B r (i + 1) else if bK' B i q.2 ≠ 0 then bK' B i q.2 else dL' B r (i + 1)
def dr' (B:BoT) (c:List (List Nd × List Nd)) (t:List Nd):Int :=
 if aM' B ≠ 0 then aM' B else if 256 < c.length then 5 else if dL' B c 0 ≠ 0 then dL' B c 0 else bK' B c.length t
theorem bY' {a b:Int}:bg' a b = 0 ↔ a = 0 /\ b = 0:=by
 unfold bg';split
 ·rename_i h
  exact ⟨fun e=>absurd e h,fun e=>absurd e.1 h⟩
 ·rename_i h
  exact ⟨fun e=>⟨by omega,e⟩,fun e=>e.2⟩
theorem jf' {l:List Nd} (h:bH' l = 0):l.length <= 4096 /\ l = row (tr l) /\ Ok .tm (tr l):=by
 unfold bH' at h;split at h
 ·cases h
 ·split at h
  ·rename_i g1 g2
   obtain ⟨x,hx⟩:=Option.isSome_iff_exists.1 g2;obtain ⟨h1,h2⟩:=oZ' hx;have:tr l = x:=by unfold tr; rw [hx]; rfl
   rw [this];exact ⟨by omega,h1,h2⟩
  ·cases h
section
variable {B:BoT}
theorem nK' {x:Tr} {N:Int} (h0:0 <= N):iJ' x N = true ↔ Bl x N:=by
 unfold iJ';rw [List.all_eq_true];constructor
 ·intro h q hq
  have:=h q hq;simp only [decide_eq_true_eq] at this;omega
 ·intro h q hq
  have:=h q hq;simp only [decide_eq_true_eq];omega
theorem kd' {known:Nat} {self:Int} {l:List Nd} {N:Int} (h0:0 <= N) (h:ls' B known self l N = 0):l = row (tr l) /\ Ft (bh' B known self) N (tr l):=by
 unfold ls' at h;split at h
 ·rename_i g; exact absurd h g
 rename_i g1;obtain ⟨h1,h2,h3⟩:=jf' (l:=l) (by omega);split at h
 ·cases h
 rename_i g2;split at h
 ·cases h
 rename_i g3;refine ⟨h2,h3,by rw [<- h2]; exact h1,(nK' h0).1 (by simpa using g2),fun m hm=>?_⟩;rw [<- h2] at hm;have:¬ (l.any fun m=>!cl' B known self m) = true:=g3;rw [List.any_eq_true] at this;unfold bh';cases hn:cl' B known self m with
 | true=>rfl
 | false=>exact absurd ⟨m,hm,by simp [hn]⟩ this
theorem uJ' {known:Nat} {self:Int} {x:Tr} {N:Int} (h0:0 <= N) (h:Ft (bh' B known self) N x):ls' B known self (row x) N = 0:=by
 unfold ls';have hs:=bM' h.ok h.len;rw [if_neg (by omega),dU' h.ok,if_neg (by rw [(nK' h0).2 h.bl]; simp),if_neg ?_];rw [List.any_eq_true];rintro ⟨m,hm,hn⟩;have:=h.al m hm;unfold bh' at this;rw [this] at hn;cases hn
theorem ew' {known:Nat} {self step:Int} (hs:0 <= step):∀ (ls:List (List Nd)) (N:Int),0 <= N -> ct' B known self step ls N = 0 -> ls = (ls.map tr).map row /\ ∀ (k:Nat) y,(ls.map tr)[k]? = some y -> Ft (bh' B known self) (N + k * step) y
 | [],N,h0,h=>⟨rfl,fun k y hy=>by simp at hy⟩
 | l :: r,N,h0,h=>by
  simp only [ct'] at h;split at h
  ·rename_i g; exact absurd h g
  rename_i g;obtain ⟨h1,h2⟩:=kd' (l:=l) h0 (Decidable.not_not.1 g);obtain ⟨h3,h4⟩:=ew' hs r (N + step) (by omega) h;refine ⟨?_,fun k y hy=>?_⟩
  ·rw [List.map_cons,List.map_cons,<- h1,<- h3]
  ·cases k with
   | zero =>
    simp only [List.map_cons,List.getElem?_cons_zero,Option.some.injEq] at hy;subst hy;exact h2.mono (by simp)
   | succ k =>
    simp only [List.map_cons,List.getElem?_cons_succ] at hy;exact (h4 k y hy).mono (by
     have:((k + 1:Nat):Int) * step = (k:Int) * step + step:=by
      rw [Int.natCast_add,Int.add_mul]; simp
     omega)
theorem lt' {i:Nat} {x:EnT}:∀ (cs:List CtT),dK' B i x cs = 0 -> ∀ (k:Nat) c,cs[k]? = some c -> ∃ ga go,GoodC B i x.params.length x.indices.length c ga go
 | [],h,k,c,hc=>by simp at hc
 | c0 :: r,h,k,c,hc=>by
  simp only [dK'] at h;split at h
  ·cases h
  split at h
  ·cases h
  split at h
  ·rename_i g; exact absurd h g
  split at h
  ·rename_i g; exact absurd h g
  rename_i g1 g2 g3 g4;cases k with
  | succ k=>exact lt' r h k c (by simpa using hc)
  | zero =>
   simp only [List.getElem?_cons_zero,Option.some.injEq] at hc;subst hc;obtain ⟨a1,a2⟩:=ew' (step:=1) (by omega) c0.args (x.params.length:Int) (by omega) (Decidable.not_not.1 g3);obtain ⟨b1,b2⟩:=ew' (step:=0) (by omega) c0.out ((x.params.length:Int) + (c0.args.length:Int)) (by omega) (Decidable.not_not.1 g4);refine ⟨c0.args.map tr,c0.out.map tr,a1,b1,by simp; omega,by simp; omega,fun k y hy=>(a2 k y hy).mono (by omega),fun y hy=>?_⟩;obtain ⟨k,hk⟩:=JH hy;exact (b2 k y hk).mono (by simp)
theorem qB' {i:Nat} {x:EnT} (h:dg' B i x = 0):(∃ s ps qi,GoodF B i x s ps qi) \/ ∃ ty bo,un' B i x ty bo:=by
 unfold dg' at h;split at h
 ·rename_i gk
  split at h
  ·cases h
  split at h
  ·cases h
  rename_i g1 g2;obtain ⟨h1,h⟩:=bY'.1 h;obtain ⟨h2,h⟩:=bY'.1 h;obtain ⟨h3,h⟩:=bY'.1 h;obtain ⟨h4,h5⟩:=bY'.1 h;obtain ⟨s1,s2⟩:=kd' (by omega) h1;obtain ⟨p1,p2⟩:=ew' (step:=1) (by omega) x.params 0 (by omega) h3;obtain ⟨q1,q2⟩:=ew' (step:=1) (by omega) x.indices (x.params.length:Int) (by omega) h4;refine .inl ⟨tr x.sort,x.params.map tr,x.indices.map tr,gk,s1,s2,?_,p1,q1,by simp; omega,by simp; omega,by omega,fun k y hy=>(p2 k y hy).mono (by omega),fun k y hy=>(q2 k y hy).mono (by simp),fun k c hc=>?_⟩
  ·unfold eM' at h2
   split at h2
   ·cases h2
   ·rename_i g3
    have:(x.sort.getD 0 ⟨0,0,0⟩).op = (tr x.sort).n.op:=by
     rw [s1,dU' s2.ok];obtain ⟨n,ks⟩:=tr x.sort;simp [row,Tr.n]
    omega
  ·obtain ⟨ga,go,hg⟩:=lt' x.ctors h5 k c hc
   exact ⟨ga,go,by simpa using hg⟩
 split at h
 ·rename_i gk0 gk
  split at h
  ·cases h
  obtain ⟨h1,h2⟩:=ew' (step:=0) (by omega) [x.type,x.body] 0 (by omega) h;simp only [List.map_cons,List.map_nil,List.cons.injEq] at h1;exact .inr ⟨tr x.type,tr x.body,gk,h1.1,h1.2.1,(h2 0 _ rfl).mono (by simp),(h2 1 _ rfl).mono (by simp)⟩
 ·cases h
theorem ik':∀ (l:List EnT) (i:Nat),cg' B l i = 0 -> ∀ (k:Nat) x,l[k]? = some x -> dg' B (i + k) x = 0
 | [],i,h,k,x,hx=>by simp at hx
 | y :: r,i,h,k,x,hx=>by
  obtain ⟨h1,h2⟩:=bY'.1 h;cases k with
  | zero =>
   simp only [List.getElem?_cons_zero,Option.some.injEq] at hx;subst hx;exact h1
  | succ k =>
   have:=ik' r (i + 1) h2 k x (by simpa using hx)
   rwa [show i + (k + 1) = i + 1 + k by omega]
theorem ex' (h:aM' B = 0):GoodB B:=by
 unfold aM' at h;split at h
 ·rename_i g; exact absurd h g
 split at h
 ·cases h
 rename_i g1 g2;obtain ⟨h1,h2⟩:=bY'.1 h;refine ⟨by omega,by omega,fun i x hx=>?_⟩;have:=ik' B.ents 0 h1 i x hx;rw [KW] at this;exact qB' this
theorem ke' {t:List Nd} {N:Int} (h0:0 <= N) (h:bK' B N t = 0):t = row (tr t) /\ Ft (QB B) N (tr t):=by
 unfold bK' at h;split at h
 ·rename_i g; exact absurd h g
 rw [if_neg (by omega)] at h;exact kd' h0 h
theorem kf' (hr:aM' B = 0) {x:Tr} {N:Int} (h0:0 <= N) (h:Ft (QB B) N x):bK' B N (row x) = 0:=by
 unfold bK';rw [if_neg (by omega),if_neg (by omega)];exact uJ' h0 h
def cxR (c:List (List Nd × List Nd)):Ctx:=c.map fun q=>(tr q.1,if q.2.length = 0 then none else some (tr q.2))
theorem nL':∀ (c:List (List Nd × List Nd)) (i:Nat),dL' B c i = 0 -> c = (cxR c).map bdR /\ ∀ (k:Nat) q,(cxR c)[k]? = some q -> Ft (QB B) ((i + k:Nat):Int) q.1 /\ ∀ x,q.2 = some x -> Ft (QB B) ((i + k:Nat):Int) x
 | [],i,h=>⟨rfl,fun k q hq=>by simp [cxR] at hq⟩
 | q :: r,i,h=>by
  simp only [dL'] at h;split at h
  ·rename_i g; exact absurd h g
  rename_i g1;obtain ⟨h1,h2⟩:=ke' (t:=q.1) (N:=(i:Int)) (by omega) (Decidable.not_not.1 g1);have tailP:dL' B r (i + 1) = 0 -> ∀ o:Option Tr,bdR (tr q.1,o) = q -> (if q.2.length = 0 then none else some (tr q.2)) = o -> (∀ x,o = some x -> Ft (QB B) (i:Int) x) -> q :: r = (cxR (q :: r)).map bdR /\ ∀ (k:Nat) q',(cxR (q :: r))[k]? = some q' -> Ft (QB B) ((i + k:Nat):Int) q'.1 /\ ∀ x,q'.2 = some x -> Ft (QB B) ((i + k:Nat):Int) x:=fun hr o ho ho2 hof=>by
   obtain ⟨t1,t2⟩:=nL' r (i + 1) hr;have e:cxR (q :: r) = (tr q.1,o) :: cxR r:=by simp only [cxR,List.map_cons,ho2]
   rw [e];refine ⟨?_,fun k q' hq'=>?_⟩
   ·rw [List.map_cons,<- t1,ho]
   ·cases k with
    | zero =>
     simp only [List.getElem?_cons_zero,Option.some.injEq] at hq';subst hq';exact ⟨h2,hof⟩
    | succ k =>
     simp only [List.getElem?_cons_succ] at hq';have:=t2 k q' hq'
     rwa [show i + 1 + k = i + (k + 1) by omega] at this
  split at h
  ·rename_i g2
   refine tailP h none ?_ (by rw [if_pos g2]) (fun x hx=>by cases hx);have:q.2 = []:=List.length_eq_zero_iff.1 g2;obtain ⟨qa,qb⟩:=q;simp only at this h1;simp [bdR,on',this,<- h1]
  ·rename_i g2
   split at h
   ·rename_i g; exact absurd h g
   rename_i g3;obtain ⟨h3,h4⟩:=ke' (t:=q.2) (N:=(i:Int)) (by omega) (Decidable.not_not.1 g3);refine tailP h (some (tr q.2)) ?_ (by rw [if_neg g2]) (fun x hx=>by injection hx with hx; rw [<- hx]; exact h4);obtain ⟨qa,qb⟩:=q;simp only at h1 h3;simp [bdR,on',<- h1,<- h3]
theorem sH' {c:List (List Nd × List Nd)} {t:List Nd} (h:dr' B c t = 0):GoodB B /\ aM' B = 0 /\ c.length <= 256 /\ c = (cxR c).map bdR /\ CxOk B (cxR c) /\ t = row (tr t) /\ Ft (QB B) (c.length:Int) (tr t):=by
 unfold dr' at h;split at h
 ·rename_i g; exact absurd h g
 split at h
 ·cases h
 split at h
 ·rename_i g; exact absurd h g
 rename_i g1 g2 g3;obtain ⟨h1,h2⟩:=nL' c 0 (Decidable.not_not.1 g3);obtain ⟨h3,h4⟩:=ke' (t:=t) (N:=(c.length:Int)) (by omega) h;refine ⟨ex' (by omega),by omega,by omega,h1,fun i q hq=>?_,h3,h4⟩;have:=h2 i q hq
 rwa [KW] at this
theorem nM' (hr:aM' B = 0):∀ (c:Ctx) (i:Nat),(∀ (k:Nat) q,c[k]? = some q -> Ft (QB B) ((i + k:Nat):Int) q.1 /\ ∀ x,q.2 = some x -> Ft (QB B) ((i + k:Nat):Int) x) -> dL' B (c.map bdR) i = 0
 | [],i,h=>rfl
 | q :: r,i,h=>by
  have h0:=h 0 q rfl;rw [Nat.add_zero] at h0;have ht:=nM' hr r (i + 1) fun k q' hq'=>by
   have:=h (k + 1) q' (by simpa using hq')
   rwa [show i + (k + 1) = i + 1 + k by omega] at this
  simp only [List.map_cons,dL'];have e1:bK' B (i:Int) (bdR q).1 = 0:=kf' hr (by omega) h0.1;rw [if_neg (by omega)];split
  ·exact ht
  ·rename_i g
   obtain ⟨ty,o⟩:=q;cases o with
   | none=>simp [bdR,on'] at g
   | some x =>
    have e2:bK' B (i:Int) (bdR (ty,some x)).2 = 0:=kf' hr (by omega) (h0.2 x rfl);rw [if_neg (by omega)];exact ht
theorem sI' (hr:aM' B = 0) {c:Ctx} (hc:CxOk B c) (hl:c.length <= 256) {x:Tr} (hx:Ft (QB B) (c.length:Int) x):dr' B (c.map bdR) (row x) = 0:=by
 unfold dr';have:=nM' hr c 0 fun k q hq=>by rw [KW]; exact hc k q hq
 rw [if_neg (by omega),if_neg (by simp; omega),if_neg (by omega)];exact kf' hr (by omega) (by simpa using hx)
end
def LkP (C:Mem) (B:BoT) (known:Nat) (self:Int) (v:Value):Prop :=
 ∃ v1 v2 v3,v = .agg #[iV B.vars,v1,v2,iV B.nat,v3,iV (known:Int),iV self] /\ SV rOr C B.orders v1 /\ SV rEn C B.ents v2 /\ SV rPr C B.prims v3 /\ known <= B.ents.length
section
variable {C:Mem} {w:World} {B:BoT} {known:Nat} {self:Int}
theorem lu' (hS:Sub C w) {v2:Value} (hE:SV rEn C B.ents v2) {a:Nat} (ha:a < B.ents.length):∃ b o c ac cc,v2 = .slice (some ⟨b,o,none⟩) B.ents.length c /\ C b (o + a * 7) (iV (entD B (a:Int)).kind) /\ C b (o + a * 7 + 4) (.slice ac (entD B (a:Int)).ctors.length cc):=by
 obtain ⟨x,hx,_⟩:=af' (l:=B.ents) (k:=a) ha;obtain ⟨b,o,c,rfl,hat⟩:=hE.at hx;obtain ⟨w1e,w2e,w3e,w4e,w5e,w6e,hcs,hki,hso,hpa,hin,hct,hty,hbo⟩:=eB' hat;obtain ⟨ac,cc,rfl,_,_⟩:=hct;rw [fM' hx];exact ⟨b,o,c,ac,cc,rfl,hcs 0 _ rfl,hcs 4 _ rfl⟩
theorem il' (hS:Sub C w) {v:Value} (hv:LkP C B known self v) {a:Int} (h0:0 <= a) :
  CC 122 #[v,iV a] w (fun e w'=>e = .returned (.bool (dV' B known a)) /\ Kp [] w w'):=by
 refine oF Tryz.func122 ?_;obtain ⟨v1,v2,v3,rfl,hO,hE,hP,hk⟩:=hv;refine cO (args:=[_,_]) 19 [.tmp 4] τok Tryz.func122 ?_;refine new fun b2 w1 hb2 h2 hs1 hk1=>?_;have h2:Bk w1.heap b2 [iV B.vars,v1,v2,iV B.nat,v3,iV (known:Int),iV self] 88:=h2;refine lb h2 ?_;refine ac' (fun g=>?_) (fun g=>?_)
 ·have g:a < (known:Int):=g
  obtain ⟨n,rfl⟩:∃ n:Nat,a = (n:Int):=⟨a.toNat,by omega⟩
  obtain ⟨b,o,c,ac,cc,rfl,hc1,hc2⟩:=lu' hS hE (a:=n) (by omega);refine lb h2 ?_;refine ix n rfl (by omega) ?_;refine ld (Cl.cell ((hS.tr hk1) _ _ _ hc1)) ?_;refine ⟨?_,hk1⟩;have:dV' B known (n:Int) = decide ((entD B (n:Int)).kind = 1):=by
   unfold dV';rw [decide_eq_true (by omega:(0:Int) <= (n:Int)),decide_eq_true g]
   rfl
  rw [this]
  rfl
 ·have g:¬ a < (known:Int):=g
  refine ⟨?_,hk1⟩;have:dV' B known a = false:=by
   unfold dV';rw [decide_eq_false g];simp
  rw [this]
  rfl
theorem uK' (hS:Sub C w) {v:Value} (hv:LkP C B known self v) {m:Nd} (hm:ah' m = true) (hi:I64 m.op /\ I64 m.a /\ I64 m.b) :
  CC 99 #[v,.agg #[iV m.op,iV m.a,iV m.b]] w (fun e w'=>e = .returned (.bool (cl' B known self m)) /\ Kp [] w w'):=by
 refine oF Tryz.func99 ?_;have hvv:=hv;obtain ⟨v1,v2,v3,rfl,hO,hE,hP,hk⟩:=hv;have hpb:=bj' hm;obtain ⟨RES,hRES⟩:∃ r,cl' B known self m = r:=⟨_,rfl⟩
 rw [hRES];unfold cl' at hRES;refine cO (args:=[_,_]) 72 [.tmp 4] τok Tryz.func99 ?_;refine new fun b2 w1 hb2 h2 hs1 hk1=>?_;have h2:Bk w1.heap b2 [iV B.vars,v1,v2,iV B.nat,v3,iV (known:Int),iV self] 88:=h2;refine new fun b3 w2 hb3 h3 hs2 hk2=>?_;have h3:Bk w2.heap b3 [iV m.op,iV m.a,iV m.b] 45:=h3;have h2:=h2.kp hk2 (by simp);have k02:=hk1.tr hk2;have hS2:=hS.tr k02;have hld:∀ (j:Nat) (u:Value),[iV B.vars,v1,v2,iV B.nat,v3,iV (known:Int),iV self][j]? = some u -> Cl w2.heap b2 (0 + j) u:=fun j u hj=>by rw [KW]; exact h2.cl hj
 refine lb h3 ?_;refine ac' (fun g1=>?_) (fun g1=>?_)
 ·have g1:m.op = 3:=g1
  rw [if_pos g1] at hRES;refine lb h3 ?_;refine lb h2 ?_;subst hRES;exact ⟨rfl,k02⟩
 have g1:¬ m.op = 3:=g1;rw [if_neg g1] at hRES;refine ac' (fun g2=>?_) (fun g2=>?_)
 ·have g2:m.op = 8:=g2
  rw [if_pos g2] at hRES;refine lb h3 ?_;refine lb h2 ?_;refine ac' (fun g=>?_) (fun g=>?_)
  ·have g:m.a < (known:Int):=g
   obtain ⟨n,hn⟩:∃ n:Nat,m.a = (n:Int):=⟨m.a.toNat,by omega⟩
   obtain ⟨b,o,c,ac,cc,rfl,hc1,hc2⟩:=lu' hS hE (a:=n) (by omega);refine lb h2 ?_;refine lb h3 ?_;refine ix n hn (by omega) ?_;refine ld (Cl.cell (hS2 _ _ _ hc1)) ?_;rw [decide_eq_true hpb.2.2.1,decide_eq_true g,hn] at hRES;subst hRES;exact ⟨rfl,k02⟩
  ·have g:¬ m.a < (known:Int):=g
   rw [decide_eq_false g] at hRES;simp only [Bool.false_and,Bool.and_false] at hRES;subst hRES;exact ⟨rfl,k02⟩
 have g2:¬ m.op = 8:=g2;rw [if_neg g2] at hRES;refine ac' (fun g3=>?_) (fun g3=>?_)
 ·have g3:m.op = 9:=g3
  rw [if_pos g3] at hRES;refine lb h3 ?_;refine lb h2 ?_;refine ac' (fun g=>?_) (fun g=>?_)
  ·have g:m.a = self:=g
   rw [decide_eq_true g] at hRES;simp only [Bool.true_or] at hRES;subst hRES;exact ⟨rfl,k02⟩
  ·have g:¬ m.a = self:=g
   rw [decide_eq_false g] at hRES;simp only [Bool.false_or] at hRES;refine ldN [iV B.vars,v1,v2,iV B.nat,v3,iV (known:Int),iV self] rfl hld ?_;refine lb h3 ?_;refine ab' (il' hS2 hvv hpb.2.2.1) ?_;rintro e w3 ⟨rfl,hk3⟩;subst hRES;exact ⟨rfl,k02.tr hk3⟩
 have g3:¬ m.op = 9:=g3;rw [if_neg g3] at hRES;refine ac' (fun g4=>?_) (fun g4=>?_)
 ·have g4:m.op = 11:=g4
  rw [if_pos g4] at hRES;refine ldN [iV B.vars,v1,v2,iV B.nat,v3,iV (known:Int),iV self] rfl hld ?_;refine lb h3 ?_;refine ab' (il' hS2 hvv hpb.2.2.1) ?_;rintro e w3 ⟨rfl,hk3⟩;subst hRES;exact ⟨rfl,k02.tr hk3⟩
 have g4:¬ m.op = 11:=g4;rw [if_neg g4] at hRES;refine ac' (fun g5=>?_) (fun g5=>?_)
 ·have g5:m.op = 10:=g5
  rw [if_pos g5] at hRES;refine aw' τok (fun z=>Kp [] w2 z) ?_;refine rV τok [0,1,2] 16 (mR 19 3) (kQd w2) ?_;refine dG' [iV B.vars,v1,v2,iV B.nat,v3,iV (known:Int),iV self] rfl hld ?_;refine lk h3 ?_;refine nV τok 3 15 (mR 19 4) ?_;refine ab' (il' (w:=(dr w2)) hS2 hvv hpb.2.2.1) ?_;rintro e w3 ⟨rfl,hk3⟩;have hk3:Kp [] w2 w3:=hk3.rd;refine ⟨.inl hk3,?_⟩;refine rV τok (rg 4 15) 0 (mR 19 19) hk3 ?_;cases hf:dV' B known m.a with
  | false =>
   rw [hf] at hRES;simp only [Bool.false_and] at hRES;refine dV ?_;subst hRES;exact ⟨rfl,k02.tr hk3⟩
  | true =>
   rw [hf] at hRES;simp only [Bool.true_and] at hRES;have hf':=hf;simp only [dV',Bool.and_eq_true,decide_eq_true_eq] at hf';obtain ⟨n,hn⟩:∃ n:Nat,m.a = (n:Int):=⟨m.a.toNat,by omega⟩
   obtain ⟨b,o,c,ac,cc,rfl,hc1,hc2⟩:=lu' hS hE (a:=n) (by omega);refine lk h3 ?_;refine lk h2 ?_;refine lk h3 ?_;refine ix n hn (by omega) ?_;refine ldK (hS2 _ _ _ hc2) ?_;refine dV ?_;rw [hn] at hRES;subst hRES;exact ⟨rfl,k02.tr hk3⟩
 have g5:¬ m.op = 10:=g5;rw [if_neg g5] at hRES;subst hRES;exact ⟨rfl,k02⟩
theorem kg' (hS:Sub C w) (hold:∀ b o v,C b o v -> b < w.heap.size) {v:Value} (hv:LkP C B known self v) {l:List Nd} {vl:Value} (hl:SV rNd C l vl) {below:Int} (hb:I64 below) :
  CC 67 #[v,vl,iV below] w (fun e w'=>e = .returned (iV (ls' B known self l below)) /\ Kp [] w w'):=by
 refine oF Tryz.func67 ?_;have hvv:=hv;obtain ⟨v1,v2,v3,rfl,hO,hE,hP,hk⟩:=hv;have hll:=hl;obtain ⟨al,cl,rfl,hl1,hl2⟩:=hl;obtain ⟨RES,hRES⟩:∃ r,ls' B known self l below = r:=⟨_,rfl⟩
 rw [hRES];unfold ls' at hRES;refine cO (args:=[_,_,_]) 30 [.tmp 6] τok Tryz.func67 ?_;refine new fun b3 w1 hb3 h3 hs1 hk1=>?_;have h3:Bk w1.heap b3 [iV B.vars,v1,v2,iV B.nat,v3,iV (known:Int),iV self] 88:=h3;refine ab' (aU' (hS.tr hk1) l al cl hl1) ?_;rintro e w2 ⟨rfl,hk2⟩;have k02:=hk1.tr hk2;refine ac' (fun g=>?_) (fun g=>?_)
 ·have g:bH' l ≠ 0:=g
  rw [if_pos g] at hRES;subst hRES;exact ⟨rfl,k02⟩
 have g:¬ bH' l ≠ 0:=g;rw [if_neg g] at hRES;obtain ⟨hlen,hrow,hok⟩:=jf' (l:=l) (by omega);have hbl:=po' (C:=C) (tr l) hok al cl (by rw [<- hrow]; exact hl1) (by rw [<- hrow]; exact hl2) (by rw [<- hrow]; exact hlen) w2 (hS.tr k02) (fun b o v h=>KZ (hold b o v h) k02.size) below hb;rw [<- hrow] at hbl;refine ab' hbl ?_;rintro e w3 ⟨rfl,hk3⟩;have k03:=k02.tr hk3;cases hbm:iJ' (tr l) below with
 | false =>
  rw [if_pos hbm] at hRES;subst hRES;exact ⟨rfl,k03⟩
 | true =>
  rw [if_neg (by rw [hbm]; simp)] at hRES;have hpl:∀ m ∈ l,ah' m = true:=fun m hm=>fu' (tr l) .tm hok.1 m (by rw [<- hrow]; exact hm);refine lp τok (σ:=Nat) (fun i=>[(3,pt b3),(19,.slice al l.length cl),(20,iV (l.length:Int)),(21,iV (i:Int))])
   (fun i w'=>i <= l.length /\ Kp [] w3 w' /\ (if (l.drop i).any (fun m=>!cl' B known self m) = true then (8:Int) else 0) = RES) (fun i=>l.length - i) 0 rfl
   ⟨rfl,rfl,rfl,rfl,trivial⟩ ⟨KV _,Kp.refl _ _,hRES⟩ ?_
  clear hRES
  rintro i w4 ⟨hi,hk4,hres⟩;have k04:=k03.tr hk4;have h34:=h3.kp ((hk2.tr hk3).tr hk4) (by simp);refine ac' (fun g2=>?_) (fun g2=>?_)
  ·have g2:(i:Int) < (l.length:Int):=g2
   obtain ⟨m,hm,hd⟩:=af' (l:=l) (k:=i) (by omega);rw [hd] at hres;obtain ⟨b,o,rfl,hcell⟩:=hl1.at (i:=i) (by omega)
   obtain ⟨cs,⟨rfl,hi1,hi2,hi3⟩,hcc⟩:=hcell i m hm;refine ix i rfl (by omega) ?_;refine ldN [iV m.op,iV m.a,iV m.b] rfl (fun j u hj=>hS.tr k04 _ _ _ (hcc j u hj)) ?_;refine new fun b9 w5 hb9 h9 hs5 hk5=>?_;refine stN (vs:=[iV m.op,iV m.a,iV m.b]) h9 rfl (by simp [Value.oneCell']) fun w6 h9 hs6 hk6=>?_;have k46:=hk5.newSt hb9 hk6;have h9:Bk w6.heap b9 [iV m.op,iV m.a,iV m.b] 45:=h9;have h36:=h34.kp k46 (by simp);refine ldN [iV B.vars,v1,v2,iV B.nat,v3,iV (known:Int),iV self] rfl (bZ h36) ?_;refine ldN [iV m.op,iV m.a,iV m.b] rfl (bZ h9) ?_;refine ab' (uK' (hS.tr (k04.tr k46)) hvv (hpl m (JQ hm)) ⟨hi1,hi2,hi3⟩) ?_;rintro e w7 ⟨rfl,hk7⟩;cases hn:cl' B known self m with
   | false =>
    rw [if_pos (by rw [List.any_cons,hn]; rfl)] at hres;subst hres;exact ⟨rfl,k04.tr (k46.tr hk7)⟩
   | true =>
    rw [List.any_cons,hn,Bool.not_true,Bool.false_or] at hres;refine i6 ?_;exact ⟨i + 1,by omega,rfl,⟨rfl,rfl,rfl,rfl,trivial⟩,by omega,(hk4.tr k46).tr hk7,hres⟩
  ·have g2:¬ (i:Int) < (l.length:Int):=g2
   rw [JY (by omega)] at hres;simp only [List.any_nil,Bool.false_eq_true,if_false] at hres;subst hres;exact ⟨rfl,k04⟩
theorem ed' (hS:Sub C w) (hold:∀ b o v,C b o v -> b < w.heap.size) {v:Value} (hv:LkP C B known self v) {ls:List (List Nd)} {vl:Value} (hl:SV (rSk rNd) C ls vl) (hll:ls.length <= 1000000) {below step:Int} (hb:0 <= below /\ below <= 1000000000) (hs0:0 <= step /\ step <= 1) :
  CC 71 #[v,vl,iV below,iV step] w (fun e w'=>e = .returned (iV (ct' B known self step ls below)) /\ Kp [] w w'):=by
 refine oF Tryz.func71 ?_;have hvv:=hv;obtain ⟨v1,v2,v3,rfl,hO,hE,hP,hk⟩:=hv;obtain ⟨al,cl,rfl,hl1,hl2⟩:=hl;obtain ⟨RES,hRES⟩:∃ r,ct' B known self step ls below = r:=⟨_,rfl⟩
 rw [hRES];refine cO (args:=[_,_,_,_]) 29 [.tmp 8] τok Tryz.func71 ?_;refine new fun b4 w1 hb4 h4 hs1 hk1=>?_;have h4:Bk w1.heap b4 [iV B.vars,v1,v2,iV B.nat,v3,iV (known:Int),iV self] 88:=h4;refine lp τok (σ:=Nat × Int) (fun q=>[(2,iV q.2),(3,iV step),(4,pt b4),(12,.slice al ls.length cl),(13,iV (ls.length:Int)),(14,iV (q.1:Int))])
  (fun q w'=>q.1 <= ls.length /\ below <= q.2 /\ q.2 <= below + q.1 /\ Kp [] w1 w' /\ ct' B known self step (ls.drop q.1) q.2 = RES) (fun q=>ls.length - q.1) (0,below) rfl
  ⟨rfl,rfl,rfl,rfl,rfl,rfl,trivial⟩ ⟨KV _,Int.le_refl _,by simp,Kp.refl _ _,by simpa using hRES⟩ ?_
 clear hRES
 rintro ⟨i,x⟩ w2 ⟨hi,hx1,hx2,hk2,hres⟩;simp only at hi hx1 hx2 hres;have k02:=hk1.tr hk2;have h42:=h4.kp hk2 (by simp);refine ac' (fun g2=>?_) (fun g2=>?_)
 ·have g2:(i:Int) < (ls.length:Int):=g2
  obtain ⟨l,hl,hd⟩:=af' (l:=ls) (k:=i) (by omega);rw [hd] at hres;simp only [ct'] at hres;obtain ⟨b,o,rfl,a',c',hcell,hcap,hsl⟩:=hl1.sk hl;refine ix i rfl (by omega) ?_;refine ld (Cl.cell (hS.tr k02 _ _ _ hcell)) ?_;refine ldN [iV B.vars,v1,v2,iV B.nat,v3,iV (known:Int),iV self] rfl (bZ h42) ?_;refine ab' (kg' (hS.tr k02) (fun b o v h=>KZ (hold b o v h) k02.size) hvv ⟨a',c',rfl,hsl,hcap⟩ (by constructor <;> omega)) ?_;rintro e w3 ⟨rfl,hk3⟩;refine ac' (fun g=>?_) (fun g=>?_)
  ·have g:ls' B known self l x ≠ 0:=g
   rw [if_pos g] at hres;subst hres;exact ⟨rfl,k02.tr hk3⟩
  have g:¬ ls' B known self l x ≠ 0:=g;rw [if_neg g] at hres;refine i6 ?_;refine i6 ?_;exact ⟨(i + 1,x + step),by simp only; omega,rfl,⟨rfl,rfl,rfl,rfl,rfl,rfl,trivial⟩,by show i + 1 <= _; omega,by simp only; omega,by simp only; omega,hk2.tr hk3,hres⟩
 ·have g2:¬ (i:Int) < (ls.length:Int):=g2
  rw [JY (by omega)] at hres;simp only [ct'] at hres;subst hres;exact ⟨rfl,k02⟩
theorem qC' (hS:Sub C w) {l:List Nd} {vl:Value} (hl:SV rNd C l vl) (h0:0 < l.length) :
  CC 69 #[vl] w (fun e w'=>e = .returned (iV (eM' l)) /\ Kp [] w w'):=by
 refine oF Tryz.func69 ?_;obtain ⟨al,cl,rfl,hl1,hl2⟩:=hl;obtain ⟨m,hm,_⟩:=af' (l:=l) (k:=0) h0;obtain ⟨b,o,rfl,hcell⟩:=hl1.at (i:=0) h0;obtain ⟨cs,⟨rfl,hi1,hi2,hi3⟩,hcc⟩:=hcell 0 m hm;have hm0:l.getD 0 ⟨0,0,0⟩ = m:=by rw [List.getD_eq_getElem?_getD,hm]; rfl
 refine cO (args:=[_]) 8 [.tmp 2] τok Tryz.func69 ?_;refine ix 0 rfl h0 ?_;refine ld (Cl.cell (hS _ _ _ (hcc 0 _ rfl))) ?_;unfold eM';rw [hm0];refine ac' (fun g=>?_) (fun g=>?_)
 ·have g:m.op ≠ 2:=g
  rw [if_pos g];exact ⟨rfl,Kp.refl _ _⟩
 ·have g:¬ m.op ≠ 2:=g
  rw [if_neg g];exact ⟨rfl,Kp.refl _ _⟩
end
def EnP (C:Mem) (x:EnT) (v:Value):Prop :=
 ∃ w1 w2 w3 w4 w5 w6,v = .agg #[iV x.kind,w1,w2,w3,w4,w5,w6] /\ SV rNd C x.sort w1 /\ SV (rSk rNd) C x.params w2 /\ SV (rSk rNd) C x.indices w3 /\ SV rCt C x.ctors w4 /\ SV rNd C x.type w5 /\ SV rNd C x.body w6
structure Bxs (C:Mem) (w:World) (B:BoT) (known:Nat) (x:EnT) (b2 b3:Nat) (v1 v2 v3 w1 w2 w3 w4 w5 w6:Value):Prop where
 lk:Bk w.heap b2 [iV B.vars,v1,v2,iV B.nat,v3,iV (known:Int),iV (-1)] 88
 en:Bk w.heap b3 [iV x.kind,w1,w2,w3,w4,w5,w6] 40
 o:SV rOr C B.orders v1
 e:SV rEn C B.ents v2
 p:SV rPr C B.prims v3
 k:known <= B.ents.length
 so:SV rNd C x.sort w1
 pa:SV (rSk rNd) C x.params w2
 ix:SV (rSk rNd) C x.indices w3
 ct:SV rCt C x.ctors w4
 lp:x.params.length <= 16
 li:x.indices.length <= 16
def gk':List Int -> Int
 | []=>0
 | a :: r=>bg' a (gk' r)
section
variable {C:Mem} {w:World} {B:BoT} {known:Nat} {x:EnT}
theorem Bxs.kp {b2 b3:Nat} {v1 v2 v3 w1 w2 w3 w4 w5 w6:Value} (h:Bxs C w B known x b2 b3 v1 v2 v3 w1 w2 w3 w4 w5 w6) {w':World} (k:Kp [] w w'):Bxs C w' B known x b2 b3 v1 v2 v3 w1 w2 w3 w4 w5 w6 :=
 ⟨h.lk.kp k (by simp),h.en.kp k (by simp),h.o,h.e,h.p,h.k,h.so,h.pa,h.ix,h.ct,h.lp,h.li⟩
theorem sJ' {fs:List (Nat × Array Value)} {rs:List Int} (hlen:rs.length = fs.length) (hfl:fs.length <= 100) {b T:Nat} (hb:Bk w.heap b (fs.map fun q=>.func (.func q.1) #[] q.2) T)
  (hf:∀ (i:Nat) q w',fs[i]? = some q -> Kp [] w w' -> (∀ j,j < i -> rs.getD j 0 = 0) -> ch' Tryz.prog q.1 /\ Calls Tryz.prog q.1 (#[] ++ #[] ++ q.2) w' (fun e w2=>e = .returned (iV (rs.getD i 0)) /\ Kp [] w' w2)) :
  CC 65 #[.slice (some ⟨b,0,none⟩) fs.length fs.length] w (fun e w'=>e = .returned (iV (gk' rs)) /\ Kp [] w w'):=by
 refine oF Tryz.func65 ?_;obtain ⟨RES,hRES⟩:∃ r,gk' rs = r:=⟨_,rfl⟩
 rw [hRES];refine cO (args:=[_]) 18 [.tmp 2] τok Tryz.func65 ?_;refine lp τok (σ:=Nat) (fun i=>[(6,.slice (some ⟨b,0,none⟩) fs.length fs.length),(7,iV (fs.length:Int)),(8,iV (i:Int))])
  (fun i w'=>i <= fs.length /\ Kp [] w w' /\ (∀ j,j < i -> rs.getD j 0 = 0) /\ gk' (rs.drop i) = RES) (fun i=>fs.length - i) 0 rfl
  ⟨rfl,rfl,rfl,trivial⟩ ⟨KV _,Kp.refl _ _,fun j hj=>by omega,hRES⟩ ?_
 clear hRES
 rintro i w1 ⟨hi,hk1,hz,hres⟩;refine ac' (fun g=>?_) (fun g=>?_)
 ·have g:(i:Int) < (fs.length:Int):=g
  obtain ⟨q,hq,_⟩:=af' (l:=fs) (k:=i) (by omega);obtain ⟨r,hr,hd⟩:=af' (l:=rs) (k:=i) (by omega);rw [hd] at hres;have hri:rs.getD i 0 = r:=by rw [List.getD_eq_getElem?_getD,hr]; rfl
  have hcell:Cl w1.heap b (0 + i * 1) (.func (.func q.1) #[] q.2):=(hb.kp hk1 (by simp)).cl (by rw [Nat.mul_one,KW,JX,hq]; rfl);refine ix i rfl (by omega) ?_;refine ld (Cl.cell hcell) ?_;have hc:=hf i q w1 hq hk1 hz;rw [hri] at hc;refine ab' hc ?_;rintro e w2 ⟨rfl,hk2⟩;simp only [gk',bg'] at hres;refine ac' (fun g2=>?_) (fun g2=>?_)
  ·have g2:r ≠ 0:=g2
   rw [if_pos g2] at hres;subst hres;exact ⟨rfl,hk1.tr hk2⟩
  ·have g2:¬ r ≠ 0:=g2
   rw [if_neg g2] at hres;refine i6 ?_;exact ⟨i + 1,by omega,rfl,⟨rfl,rfl,rfl,trivial⟩,by omega,hk1.tr hk2,fun j hj=>by
    by_cases h:j = i
    ·subst h
     rw [hri];omega
    ·exact hz j (by omega),hres⟩
 ·have g:¬ (i:Int) < (fs.length:Int):=g
  rw [JY (by omega)] at hres;simp only [gk'] at hres;subst hres;exact ⟨rfl,hk1⟩
theorem sK' (hS:Sub C w) (hold:∀ b o v,C b o v -> b < w.heap.size) {lv ev:Value} (hlv:LkP C B known (-1) lv) (hev:EnP C x ev) (hlp:x.params.length <= 16) (hli:x.indices.length <= 16) :
  CC 74 #[lv,ev] w (fun e w'=>e = .returned (iV (dK' B known x x.ctors)) /\ Kp [] w w'):=by
 refine oF Tryz.func74 ?_;obtain ⟨RES,hRES⟩:∃ r,dK' B known x x.ctors = r:=⟨_,rfl⟩
 rw [hRES];obtain ⟨v1,v2,v3,rfl,hO,hE,hP,hk⟩:=hlv;obtain ⟨w1e,w2e,w3e,w4e,w5e,w6e,rfl,hso,hpa,hin,hct,hty,hbo⟩:=hev;obtain ⟨ap,cp,rfl,_,_⟩:=id hpa;obtain ⟨ai,ci,rfl,_,_⟩:=id hin;obtain ⟨ac,cc,rfl,hct1,hct2⟩:=id hct;have hctl:=hct1.1;refine cO (args:=[_,_]) 55 [.tmp 4] τok Tryz.func74 ?_;refine new fun b2 w1 hb2 h2 hs1 hk1=>?_;have h2:Bk w1.heap b2 [iV B.vars,v1,v2,iV B.nat,v3,iV (known:Int),iV (-1)] 88:=h2;refine new fun b3 w2 hb3 h3 hs2 hk2=>?_;have h3:Bk w2.heap b3 [iV x.kind,w1e,.slice ap x.params.length cp,.slice ai x.indices.length ci,.slice ac x.ctors.length cc,w5e,w6e] 40:=h3;have h2:=h2.kp hk2 (by simp);have k02:=hk1.tr hk2;refine lb h2 ?_;refine st (b:=b2) (o:=6) h2 (by simp) rfl fun w3 h2 hs3 hk3=>?_;have h2:Bk w3.heap b2 [iV B.vars,v1,v2,iV B.nat,v3,iV (known:Int),iV (known:Int)] 88:=h2;have k03:Kp [] w w3:=k02.trans hk3 fun y hy hl=>by
  obtain rfl:y = b2:=by simpa using hy
  omega
 have hne:b3 ≠ b2:=by have:=hs1; omega
 have h3:=h3.kp hk3 (by simpa using hne);refine lb h3 ?_;refine lp τok (σ:=Nat) (fun i=>[(2,pt b2),(3,pt b3),(13,.slice ac x.ctors.length cc),(14,iV (x.ctors.length:Int)),(15,iV (i:Int))])
  (fun i w'=>i <= x.ctors.length /\ Kp [] w3 w' /\ dK' B known x (x.ctors.drop i) = RES) (fun i=>x.ctors.length - i) 0 rfl
  ⟨rfl,rfl,rfl,rfl,rfl,trivial⟩ ⟨KV _,Kp.refl _ _,hRES⟩ ?_
 clear hRES
 rintro i w4 ⟨hi,hk4,hres⟩;have k04:=k03.tr hk4;refine ac' (fun g=>?_) (fun g=>?_)
 ·have g:(i:Int) < (x.ctors.length:Int):=g
  obtain ⟨c,hc,hd⟩:=af' (l:=x.ctors) (k:=i) (by omega);rw [hd] at hres;simp only [dK'] at hres;obtain ⟨bc,oc,cc',pc,hca⟩:=hct.at hc;obtain ⟨va,vo,hccs,hva,hvo⟩:=hH' hca;injection pc with q1 q2 q3
  subst q1 q3;obtain ⟨aa,ca,rfl,hva1,hva2⟩:=id hva;obtain ⟨ao,co,rfl,hvo1,hvo2⟩:=id hvo;refine ix i rfl (by omega) ?_;refine ldN [.slice aa c.args.length ca,.slice ao c.out.length co] rfl (fun j u hj=>hS.tr k04 _ _ _ (hccs j u hj)) ?_;refine new fun b6 w5 hb6 h6 hs5 hk5=>?_;refine stN (vs:=[.slice aa c.args.length ca,.slice ao c.out.length co]) h6 rfl (by simp [Value.oneCell']) fun w6 h6 hs6 hk6=>?_;have k46:=hk5.newSt hb6 hk6;have k36:=hk4.tr k46;have k06:=k04.tr k46;have h6:Bk w6.heap b6 [.slice aa c.args.length ca,.slice ao c.out.length co] 47:=h6;have h26:=h2.kp k36 (by simp);have h36:=h3.kp k36 (by simp);refine lb h6 ?_;refine ac' (fun g1=>?_) (fun g1=>?_)
  ·have g1:(16:Int) < (c.args.length:Int):=g1
   rw [if_pos (by omega)] at hres;subst hres;exact ⟨rfl,k06⟩
  have g1:¬ (16:Int) < (c.args.length:Int):=g1;rw [if_neg (by omega)] at hres;refine lb h6 ?_;refine lb h36 ?_;refine ac' (fun g2=>?_) (fun g2=>?_)
  ·have g2:(c.out.length:Int) ≠ (x.indices.length:Int):=g2
   rw [if_pos (by omega)] at hres;subst hres;exact ⟨rfl,k06⟩
  have g2:¬ (c.out.length:Int) ≠ (x.indices.length:Int):=g2;rw [if_neg (by omega)] at hres;refine ldN [iV B.vars,v1,v2,iV B.nat,v3,iV (known:Int),iV (known:Int)] rfl (bZ h26) ?_;refine lb h6 ?_;refine lb h36 ?_;refine ab' (ed' (hS.tr k06) (fun b o v h=>KZ (hold b o v h) k06.size) ⟨v1,v2,v3,rfl,hO,hE,hP,hk⟩ hva (by omega) (by omega) (by omega)) ?_;rintro e w7 ⟨rfl,hk7⟩;refine ac' (fun g3=>?_) (fun g3=>?_)
  ·have g3:ct' B known (known:Int) 1 c.args (x.params.length:Int) ≠ 0:=g3
   rw [if_pos g3] at hres;subst hres;exact ⟨rfl,k06.tr hk7⟩
  have g3:¬ ct' B known (known:Int) 1 c.args (x.params.length:Int) ≠ 0:=g3;rw [if_neg g3] at hres;have h27:=h26.kp hk7 (by simp);have h37:=h36.kp hk7 (by simp);have h67:=h6.kp hk7 (by simp);have k07:=k06.tr hk7;refine ldN [iV B.vars,v1,v2,iV B.nat,v3,iV (known:Int),iV (known:Int)] rfl (bZ h27) ?_;refine lb h67 ?_;refine lb h37 ?_;refine lb h67 ?_;refine i6 ?_;refine ab' (ed' (hS.tr k07) (fun b o v h=>KZ (hold b o v h) k07.size) ⟨v1,v2,v3,rfl,hO,hE,hP,hk⟩ hvo (by omega) (by omega) (by omega)) ?_;rintro e w8 ⟨rfl,hk8⟩;refine ac' (fun g4=>?_) (fun g4=>?_)
  ·have g4:ct' B known (known:Int) 0 c.out ((x.params.length:Int) + (c.args.length:Int)) ≠ 0:=g4
   rw [if_pos g4] at hres;subst hres;exact ⟨rfl,k07.tr hk8⟩
  have g4:¬ ct' B known (known:Int) 0 c.out ((x.params.length:Int) + (c.args.length:Int)) ≠ 0:=g4;rw [if_neg g4] at hres;refine i6 ?_;exact ⟨i + 1,by omega,rfl,⟨rfl,rfl,rfl,rfl,rfl,trivial⟩,by omega,(k36.tr hk7).tr hk8,hres⟩
 ·have g:¬ (i:Int) < (x.ctors.length:Int):=g
  rw [JY (by omega)] at hres;simp only [dK'] at hres;subst hres;exact ⟨rfl,k04⟩
section
variable {b2 b3:Nat} {v1 v2 v3 w1 w2 w3 w4 w5 w6:Value}
theorem qD' (hS:Sub C w) (hold:∀ b o v,C b o v -> b < w.heap.size) (h:Bxs C w B known x b2 b3 v1 v2 v3 w1 w2 w3 w4 w5 w6) :
  CC 66 #[pt b2,pt b3] w (fun e w'=>e = .returned (iV (ls' B known (-1) x.sort 0)) /\ Kp [] w w'):=by
 refine oF Tryz.func66 ?_;refine cO (args:=[_,_]) 7 [.tmp 2] τok Tryz.func66 ?_;refine ldN [iV B.vars,v1,v2,iV B.nat,v3,iV (known:Int),iV (-1)] rfl (bZ h.lk) ?_;refine ld (Cl.cell (h.en.cl rfl)) ?_;refine ab' (kg' hS hold ⟨v1,v2,v3,rfl,h.o,h.e,h.p,h.k⟩ h.so (by constructor <;> simp)) ?_;rintro e w7 ⟨rfl,hk7⟩;exact ⟨rfl,hk7⟩
theorem qE' (hS:Sub C w) (h:Bxs C w B known x b2 b3 v1 v2 v3 w1 w2 w3 w4 w5 w6) (h0:0 < x.sort.length) :
  CC 68 #[pt b3] w (fun e w'=>e = .returned (iV (eM' x.sort)) /\ Kp [] w w'):=by
 refine oF Tryz.func68 ?_;refine cO (args:=[_]) 5 [.tmp 1] τok Tryz.func68 ?_;refine ld (Cl.cell (h.en.cl rfl)) ?_;refine ab' (qC' hS h.so h0) ?_;rintro e w7 ⟨rfl,hk7⟩;exact ⟨rfl,hk7⟩
theorem qF' (hS:Sub C w) (hold:∀ b o v,C b o v -> b < w.heap.size) (h:Bxs C w B known x b2 b3 v1 v2 v3 w1 w2 w3 w4 w5 w6) :
  CC 70 #[pt b2,pt b3] w (fun e w'=>e = .returned (iV (ct' B known (-1) 1 x.params 0)) /\ Kp [] w w'):=by
 refine oF Tryz.func70 ?_;have:=h.lp;refine cO (args:=[_,_]) 7 [.tmp 2] τok Tryz.func70 ?_;refine ldN [iV B.vars,v1,v2,iV B.nat,v3,iV (known:Int),iV (-1)] rfl (bZ h.lk) ?_;refine ld (Cl.cell (h.en.cl rfl)) ?_;refine ab' (ed' hS hold ⟨v1,v2,v3,rfl,h.o,h.e,h.p,h.k⟩ h.pa (by omega) (by omega) (by omega)) ?_;rintro e w7 ⟨rfl,hk7⟩;exact ⟨rfl,hk7⟩
theorem qG' (hS:Sub C w) (hold:∀ b o v,C b o v -> b < w.heap.size) (h:Bxs C w B known x b2 b3 v1 v2 v3 w1 w2 w3 w4 w5 w6) {b5 T:Nat} (h5:Bk w.heap b5 [iV (x.params.length:Int)] T) :
  CC 72 #[pt b2,pt b3,pt b5] w (fun e w'=>e = .returned (iV (ct' B known (-1) 1 x.indices (x.params.length:Int))) /\ Kp [] w w'):=by
 refine oF Tryz.func72 ?_;have:=h.lp;have:=h.li;refine cO (args:=[_,_,_]) 9 [.tmp 3] τok Tryz.func72 ?_;refine ldN [iV B.vars,v1,v2,iV B.nat,v3,iV (known:Int),iV (-1)] rfl (bZ h.lk) ?_;refine ld (Cl.cell (h.en.cl rfl)) ?_;refine lb h5 ?_;refine ab' (ed' hS hold ⟨v1,v2,v3,rfl,h.o,h.e,h.p,h.k⟩ h.ix (by omega) (by omega) (by omega)) ?_;rintro e w7 ⟨rfl,hk7⟩;exact ⟨rfl,hk7⟩
theorem qH' (hS:Sub C w) (hold:∀ b o v,C b o v -> b < w.heap.size) (h:Bxs C w B known x b2 b3 v1 v2 v3 w1 w2 w3 w4 w5 w6) (hty:SV rNd C x.type w5) (hbo:SV rNd C x.body w6) :
  CC 73 #[pt b2,pt b3] w (fun e w'=>e = .returned (iV (dK' B known x x.ctors)) /\ Kp [] w w'):=by
 refine oF Tryz.func73 ?_;refine cO (args:=[_,_]) 6 [.tmp 2] τok Tryz.func73 ?_;refine ldN [iV B.vars,v1,v2,iV B.nat,v3,iV (known:Int),iV (-1)] rfl (bZ h.lk) ?_;refine ldN [iV x.kind,w1,w2,w3,w4,w5,w6] rfl (bZ h.en) ?_;refine ab' (sK' hS hold ⟨v1,v2,v3,rfl,h.o,h.e,h.p,h.k⟩ ⟨w1,w2,w3,w4,w5,w6,rfl,h.so,h.pa,h.ix,h.ct,hty,hbo⟩ h.lp h.li) ?_;rintro e w7 ⟨rfl,hk7⟩;exact ⟨rfl,hk7⟩
end
end
section
variable {C:Mem} {w:World} {B:BoT} {known:Nat} {x:EnT}
theorem oy' (hS:Sub C w) (hold:∀ b o v,C b o v -> b < w.heap.size) {lv ev:Value} (hlv:LkP C B known (-1) lv) (hev:EnP C x ev) :
  CC 41 #[lv,ev] w (fun e w'=>e = .returned (iV (dg' B known x)) /\ Kp [] w w'):=by
 refine oF Tryz.func41 ?_;obtain ⟨RES,hRES⟩:∃ r,dg' B known x = r:=⟨_,rfl⟩
 rw [hRES];unfold dg' at hRES;obtain ⟨v1,v2,v3,rfl,hO,hE,hP,hk⟩:=hlv;obtain ⟨w1e,w2e,w3e,w4e,w5e,w6e,rfl,hso,hpa,hin,hct,hty,hbo⟩:=hev;obtain ⟨as_,cs_,rfl,hso1,hso2⟩:=id hso;obtain ⟨ap,cp,rfl,hpa1,hpa2⟩:=id hpa;obtain ⟨ai,ci,rfl,hin1,hin2⟩:=id hin;obtain ⟨ac,cc,rfl,hct1,hct2⟩:=id hct;obtain ⟨at_,ct_,rfl,hty1,hty2⟩:=id hty;obtain ⟨ab,cb,rfl,hbo1,hbo2⟩:=id hbo;have l1:=hso1.1;have l2:=hpa1.1;have l3:=hin1.1;have l4:=hct1.1;have l5:=hty1.1;have l6:=hbo1.1;refine cO (args:=[_,_]) 69 [.tmp 4] τok Tryz.func41 ?_;refine new fun b2 w1 hb2 h2 hs1 hk1=>?_;have h2:Bk w1.heap b2 [iV B.vars,v1,v2,iV B.nat,v3,iV (known:Int),iV (-1)] 88:=h2;refine new fun b3 w2 hb3 h3 hs2 hk2=>?_;have h3:Bk w2.heap b3 [iV x.kind,.slice as_ x.sort.length cs_,.slice ap x.params.length cp,.slice ai x.indices.length ci,.slice ac x.ctors.length cc,.slice at_ x.type.length ct_,.slice ab x.body.length cb] 40:=h3;have h2:=h2.kp hk2 (by simp);have k02:=hk1.tr hk2;refine lb h3 ?_;refine ac' (fun g1=>?_) (fun g1=>?_)
 ·have g1:x.kind = 1:=g1
  rw [if_pos g1] at hRES;refine lb h3 ?_;refine lb h3 ?_;refine i6 ?_;refine ac' (fun g2=>?_) (fun g2=>?_)
  ·have g2:(0:Int) < (x.type.length:Int) + (x.body.length:Int):=g2
   rw [if_pos (by omega)] at hRES;subst hRES;exact ⟨rfl,k02⟩
  have g2:¬ (0:Int) < (x.type.length:Int) + (x.body.length:Int):=g2;rw [if_neg (by omega)] at hRES;have big:∀ {w'},Kp [] w w' -> RES = 5 -> Ending.returned (Go.Wx.one [iV 5]) = .returned (iV RES) /\ Kp [] w w':=fun k h=>by subst h; exact ⟨rfl,k⟩
  refine lb h3 ?_;refine ac' (fun g3=>?_) (fun g3=>?_)
  ·have g3:(16:Int) < (x.params.length:Int):=g3
   rw [if_pos (.inl (by omega))] at hRES;exact big k02 hRES.symm
  have g3:¬ (16:Int) < (x.params.length:Int):=g3;refine lb h3 ?_;refine ac' (fun g4=>?_) (fun g4=>?_)
  ·have g4:(16:Int) < (x.indices.length:Int):=g4
   rw [if_pos (.inr (.inl (by omega)))] at hRES;exact big k02 hRES.symm
  have g4:¬ (16:Int) < (x.indices.length:Int):=g4;refine lb h3 ?_;refine ac' (fun g5=>?_) (fun g5=>?_)
  ·have g5:(16:Int) < (x.ctors.length:Int):=g5
   rw [if_pos (.inr (.inr (by omega)))] at hRES;exact big k02 hRES.symm
  have g5:¬ (16:Int) < (x.ctors.length:Int):=g5;rw [if_neg (by omega)] at hRES;refine lb h3 ?_;refine new fun b5 w3 hb5 h5 hs3 hk3=>?_;refine st (b:=b5) (o:=0) h5 (by simp) rfl fun w4 h5 hs4 hk4=>?_;have h5:Bk w4.heap b5 [iV (x.params.length:Int)] 3:=h5;have k24:=hk3.newSt hb5 hk4;refine fill [.func (.func 66) #[] #[pt b2,pt b3],.func (.func 68) #[] #[pt b3],.func (.func 70) #[] #[pt b2,pt b3],.func (.func 72) #[] #[pt b2,pt b3,pt b5],.func (.func 73) #[] #[pt b2,pt b3]] rfl ?_;refine new fun b6 w5 hb6 h6 hs5 hk5=>?_;have k25:=k24.tr hk5;have k05:=k02.tr k25;have h5:=h5.kp hk5 (by simp);have hS5:=hS.tr k05;have hold5:∀ b o v,C b o v -> b < w5.heap.size:=fun b o v h=>KZ (hold b o v h) k05.size;have hbx:Bxs C w5 B known x b2 b3 v1 v2 v3 _ _ _ _ _ _:=⟨h2.kp k25 (by simp),h3.kp k25 (by simp),hO,hE,hP,hk,hso,hpa,hin,hct,by omega,by omega⟩
  have hfs:=sJ' (w:=w5) (fs:=[(66,#[pt b2,pt b3]),(68,#[pt b3]),(70,#[pt b2,pt b3]),(72,#[pt b2,pt b3,pt b5]),(73,#[pt b2,pt b3])])
   (rs:=[ls' B known (-1) x.sort 0,eM' x.sort,ct' B known (-1) 1 x.params 0,ct' B known (-1) 1 x.indices (x.params.length:Int),dK' B known x x.ctors]) rfl (by simp) h6 (fun i q w' hq hk' hz=>by
    have hSw:=hS5.tr hk';have holdw:∀ b o v,C b o v -> b < w'.heap.size:=fun b o v h=>KZ (hold5 b o v h) hk'.size;have hbw:=hbx.kp hk'
    match i,hq with
    | 0,hq =>
     obtain rfl:=JB hq;exact qD' hSw holdw hbw
    | 1,hq =>
     obtain rfl:=JB hq;refine qE' hSw hbw ?_;have h0:ls' B known (-1) x.sort 0 = 0:=hz 0 (by omega);obtain ⟨hr,_⟩:=kd' (by omega) h0;rw [hr];exact ag' _
    | 2,hq =>
     obtain rfl:=JB hq;exact qF' hSw holdw hbw
    | 3,hq =>
     obtain rfl:=JB hq;exact qG' hSw holdw hbw (h5.kp hk' (by simp))
    | 4,hq =>
     obtain rfl:=JB hq;exact qH' hSw holdw hbw hty hbo
    | i + 5,hq=>simp at hq)
  refine ab' hfs ?_;rintro e w6 ⟨rfl,hk6⟩;have:gk' [ls' B known (-1) x.sort 0,eM' x.sort,ct' B known (-1) 1 x.params 0,ct' B known (-1) 1 x.indices (x.params.length:Int),dK' B known x x.ctors] = RES:=by
   rw [<- hRES];have e:∀ a,bg' a 0 = a:=fun a=>by unfold bg'; split <;> omega
   simp only [gk',e]
  rw [this];exact ⟨rfl,k05.tr hk6⟩
 have g1:¬ x.kind = 1:=g1;rw [if_neg g1] at hRES;refine ac' (fun g2=>?_) (fun g2=>?_)
 ·have g2:x.kind = 2:=g2
  rw [if_pos g2] at hRES;refine lb h3 ?_;refine lb h3 ?_;refine i6 ?_;refine lb h3 ?_;refine i6 ?_;refine lb h3 ?_;refine i6 ?_;refine ac' (fun g3=>?_) (fun g3=>?_)
  ·have g3:(0:Int) < (x.sort.length:Int) + (x.params.length:Int) + (x.indices.length:Int) + (x.ctors.length:Int):=g3
   rw [if_pos (by omega)] at hRES;subst hRES;exact ⟨rfl,k02⟩
  have g3:¬ (0:Int) < (x.sort.length:Int) + (x.params.length:Int) + (x.indices.length:Int) + (x.ctors.length:Int):=g3;rw [if_neg (by omega)] at hRES;refine ldN [iV B.vars,v1,v2,iV B.nat,v3,iV (known:Int),iV (-1)] rfl (bZ h2) ?_;refine lb h3 ?_;refine lb h3 ?_;refine fill [.slice at_ x.type.length ct_,.slice ab x.body.length cb] rfl ?_;refine new fun b5 w3 hb5 h5 hs3 hk3=>?_;have k03:=k02.tr hk3;have upC:∀ b o v,C b o v -> Cn C w w3 b o v:=fun b o v h=>.inl h;have hrows:SV (rSk rNd) (Cn C w w3) [x.type,x.body] (.slice (some ⟨b5,0,none⟩) 2 2):=by
   have hcell:∀ j u,[Value.slice at_ x.type.length ct_,.slice ab x.body.length cb][j]? = some u -> Cn C w w3 b5 (0 + j) u:=fun j u hj=>by
    refine .inr ⟨by have:=k02.size; omega,?_⟩;rw [KW];exact h5.cu hj
   refine ⟨_,_,rfl,⟨by simp,.inr ⟨b5,0,rfl,fun j l hj=>?_⟩⟩,by simp⟩
   match j,hj with
   | 0,hj =>
    obtain rfl:=JB hj;refine ⟨[_],⟨at_,ct_,rfl,hty2,hty1.mono upC⟩,fun m t hm=>?_⟩
    match m,hm with
    | 0,hm =>
     obtain rfl:=JB hm;exact hcell 0 _ rfl
   | 1,hj =>
    obtain rfl:=JB hj;refine ⟨[_],⟨ab,cb,rfl,hbo2,hbo1.mono upC⟩,fun m t hm=>?_⟩
    match m,hm with
    | 0,hm =>
     obtain rfl:=JB hm;exact hcell 1 _ rfl
  refine ab' (ed' (C:=Cn C w w3) (Cn.sub hS k03) (fun b o v h=>Cn.hold hold k03 h) ⟨v1,v2,v3,rfl,hO.mono upC,hE.mono upC,hP.mono upC,hk⟩ hrows (by simp) (by omega) (by omega)) ?_;rintro e w4 ⟨rfl,hk4⟩;subst hRES;exact ⟨rfl,k03.tr hk4⟩
 have g2:¬ x.kind = 2:=g2;rw [if_neg g2] at hRES;subst hRES;exact ⟨rfl,k02⟩
end
theorem xe':Tryz.prog.stoodInHeld 125 = false:=by kernel_rfl
theorem eqP (a b c d:Int) (w:World):(Op.equal 125 (.agg #[iV a,iV b]) (.agg #[iV c,iV d])).run Tryz.prog w = .ok (decide (a = c /\ b = d)) w:=by
 have hf:Tryz.prog.underlying 125 = some (.struct (Tryz.prog.fieldsOf 125)):=by rw [Program.fieldsOf,Tryz.underlying125]
 have h:=run_equalIn_struct (P:=Tryz.prog) w 9999 125 #[iV a,iV b] #[iV c,iV d] hf xe';show (Op.equalIn 10000 125 _ _).run Tryz.prog w = _;rw [h];simp [Program.fieldsOf,Tryz.underlying125,Op.eqFields,part,go_sem,Tryz.underlying3]
 by_cases h1:a = c <;> by_cases h2:b = d <;> simp [h1,h2,go_sem]
theorem ckP3 (e:Bool) (d:Nat) (n:Int) (w:World):(Instr.checkKey e (d + 1) 3 (iV n)).run Tryz.prog w = .ok () w:=by
 simp only [Instr.checkKey,Sem.run_bind,run_underlying Tryz.underlying3,Result.andThen_ok]
 rfl
theorem ckPn (e:Bool) (d:Nat) (a b:Int) (w:World):(Instr.checkKey e (d + 1 + 1) 125 (.agg #[iV a,iV b])).run Tryz.prog w = .ok () w:=by
 rw [Instr.checkKey];simp only [Sem.run_bind,run_underlying Tryz.underlying125,Result.andThen_ok];rw [<- Array.forIn_toList];simp [part,go_sem,ckP3]
theorem ckP (e:Bool) (a b:Int) (w:World):(Instr.checkKey e 10000 125 (.agg #[iV a,iV b])).run Tryz.prog w = .ok () w:=ckPn e 9998 a b w
theorem nN' (x y:Int) (w:World):∀ (es:List MapEntry) (l:List (Int × Int × Int)) (i:Nat),iN' es l ->
  (Instr.findAsking 125 (.agg #[iV x,iV y]) es i).run Tryz.prog w = .ok ((lkI x y l i).map fun p=>(p.1,iV p.2)) w
 | [],[],i,_=>by simp [Instr.findAsking,lkI]
 | e :: es,t :: l,i,h=>by
  simp only [iN',List.map_cons,List.cons.injEq,Prod.mk.injEq] at h;obtain ⟨⟨h1,h2⟩,h3⟩:=h;have ih:=nN' x y w es l (i + 1) h3;simp only [Instr.findAsking,Sem.run_bind,h1,eqP,Result.andThen_ok,lkI]
  by_cases hc:x = t.1 /\ y = t.2.1
  ·simp [hc,h2]
  ·simp [hc,ih]
 | [],_ :: _,_,h=>by simp [iN'] at h
 | _ :: _,[],_,h=>by simp [iN'] at h
theorem tF' (x y:Int) (w:World) (es:List MapEntry) (l:List (Int × Int × Int)) (h:iN' es l) :
  (Instr.findKey 125 (.agg #[iV x,iV y]) es).run Tryz.prog w = .ok ((lkI x y l 0).map fun p=>(p.1,iV p.2)) w:=by
 simp only [Instr.findKey,Sem.run_bind,run_underlying Tryz.underlying125,Result.andThen_ok]
 match es,l,h with
 | [],[],_=>simp [Instr.findNow,lkI]
 | e :: es,t :: l,h =>
  simp only [Instr.findNow,Instr.sameNow];exact nN' x y w _ _ 0 h
 | [],_ :: _,h=>simp [iN'] at h
 | _ :: _,[],h=>simp [iN'] at h
def GrP (h:Array Obj) (b:Nat) (g:Lv.G):Prop:=∃ es clock l,h[b]? = some (.map es clock) /\ iN' es.toList l /\ ∀ x y,g x y = (lkI x y l 0).map (·.2)
theorem GrP.lt {h:Array Obj} {b:Nat} {g:Lv.G} (hb:GrP h b g):b < h.size:=by
 obtain ⟨es,clock,l,h1,_⟩:=hb;rcases Nat.lt_or_ge b h.size with h' | h'
 ·exact h'
 ·simp [Array.getElem?_eq_none h'] at h1
theorem GrP.kp {X:List Nat} {w w':World} {b:Nat} {g:Lv.G} (hb:GrP w.heap b g) (h:Kp X w w') (hx:b ∉ X):GrP w'.heap b g:=by
 have hl:=hb.lt;obtain ⟨es,clock,l,h1,h2⟩:=hb;exact ⟨es,clock,l,by rw [h.block b hl hx]; exact h1,h2⟩
theorem dh' {w:World} {b:Nat} {g:Lv.G} (hg:GrP w.heap b g) (x y:Int) (ok:Bool) :
  (Instr.lookup 123 (.map (some b)) (.agg #[iV x,iV y]) ok).run Tryz.prog w = .ok (if ok then .tuple #[iV ((g x y).getD 0),.bool (g x y).isSome] else iV ((g x y).getD 0)) w:=by
 obtain ⟨es,clock,l,h1,h2,h3⟩:=hg;have hobj:(getObj b).run Tryz.prog w = .ok (.map es clock) w:=by simp [getObj,Sem.run,h1]
 have hz:(zeroValue 3).run Tryz.prog w = .ok (iV 0) w:=by kernel_rfl
 have hfk:=tF' x y w es.toList l h2;simp only [Instr.lookup,Sem.run_bind,run_underlying Tryz.underlying123,Result.andThen_ok,hobj,ckP,h3];cases hl:lkI x y l 0 with
 | none=>rw [hl] at hfk; simp [hfk,hz]
 | some p=>rw [hl] at hfk; simp [hfk]
theorem ee' {w:World} {b:Nat} {g:Lv.G} (hg:GrP w.heap b g) (x y v:Int) {k:World -> Prop} (hk:∀ w',GrP w'.heap b (Lv.putG g x y v) -> w'.heap.size = w.heap.size -> Kp [b] w w' -> k w') :
  EvRunU Tryz.prog (Instr.mapUpdate 123 (.map (some b)) (.agg #[iV x,iV y]) (iV v)) w k:=by
 have hlt:=hg.lt;obtain ⟨es,clock,l,h1,h2,h3⟩:=hg;have hobj:(getObj b).run Tryz.prog w = .ok (.map es clock) w:=by simp [getObj,Sem.run,h1]
 have hfk:=tF' x y w es.toList l h2;have hset:∀ o,(setObj b o).run Tryz.prog w = .ok () { w with heap:=w.heap.setIfInBounds b o }:=fun o=>by simp [setObj,Sem.run,h1]
 have hkp:∀ o,Kp [b] w { w with heap:=w.heap.setIfInBounds b o }:=fun o=>⟨rfl,rfl,rfl,by simp,fun i _ hx=>by
  have:b ≠ i:=fun e=>hx (by simp [e]);simp [Array.getElem?_setIfInBounds_ne this]⟩
 have hat:∀ o,(w.heap.setIfInBounds b o)[b]? = some o:=fun o=>by simp [hlt]
 have hlen:es.size = l.length:=by
  have:=congrArg List.length h2
  simpa using this
 cases hl:lkI x y l 0 with
 | none =>
  rw [hl] at hfk;refine vk' (w':={ w with heap:=w.heap.setIfInBounds b (.map (es.push { key:=.agg #[iV x,iV y],val:=iV v,born:=clock }) (clock + 1)) }) ?_ (hk _ ?_ (by simp) (hkp _))
  ·simp [Instr.mapUpdate,run_underlying Tryz.underlying123,hobj,ckP,hfk,hset]
  ·refine ⟨_,_,l ++ [(x,y,v)],hat _,?_,fun a c=>?_⟩
   ·simp only [iN',Array.toList_push,List.map_append,h2,List.map_cons,List.map_nil]
    rw [h2]
   ·rw [jH' x y v l 0 hl a c,<- h3]
    rfl
 | some p =>
  rw [hl] at hfk;obtain ⟨_,t,ht,e1,e2,e3⟩:=nn' x y l 0 p hl;rw [Nat.sub_zero] at ht;have hp:p.1 < l.length:=(List.getElem?_eq_some_iff.1 ht).1;have hkey:((es[p.1]?).map (·.key)).getD (.agg #[iV x,iV y]) = .agg #[iV x,iV y]:=by
   have:=congrArg (fun l=>l[p.1]?) h2;simp only [JX,ht,Option.map_some,Array.getElem?_toList] at this;cases hes:es[p.1]? with
   | none=>simp
   | some e =>
    rw [hes] at this;simp only [Option.map_some,Option.some.injEq,Prod.mk.injEq] at this;simp [this.1,e1,e2]
  refine vk' (w':={ w with heap:=w.heap.setIfInBounds b (.map (es.modify p.1 fun e=>{ e with key:=.agg #[iV x,iV y],val:=iV v }) clock) }) ?_ (hk _ ?_ (by simp) (hkp _))
  ·have hst:(Instr.keyThatStays (.agg #[iV x,iV y]) (.agg #[iV x,iV y])).run Tryz.prog w = .ok (.agg #[iV x,iV y]) w:=by
    unfold Instr.keyThatStays;rw [show (10000:Nat) = 9999 + 1 from rfl,vO'];simp
   simp only [Instr.mapUpdate,Sem.run_bind,run_underlying Tryz.underlying123,Result.andThen_ok,hobj,ckP];rw [hfk];simp only [Option.map_some,Result.andThen_ok,Sem.run_bind];rw [hkey,hst];simp [hset]
  ·refine ⟨_,_,l.set p.1 (x,y,v),hat _,?_,fun a c=>?_⟩
   ·unfold iN'
    apply List.ext_getElem?;intro i;have:=congrArg (fun l=>l[i]?) h2;simp only [JX,Array.getElem?_toList] at this ⊢;simp only [Array.getElem?_modify,List.getElem?_set]
    by_cases hi:p.1 = i
    ·subst hi
     have hes:p.1 < es.size:=by omega
     simp [hp,hes]
    ·simp [hi,this]
   ·have:=mh' x y v l 0 p hl a c
    rw [Nat.sub_zero] at this;rw [this,<- h3]
    rfl
theorem uL' {w:World} {k:Value -> World -> Prop} (hk:∀ b w',b = w.heap.size -> GrP w'.heap b (fun _ _=>none) -> w'.heap.size = b + 1 -> Kp [] w w' -> k (.map (some b)) w'):EvRun Tryz.prog (Instr.makeMap 123 none) w k:=by
 refine run (w':=w.alloc (.map #[] 0)) (by simp [Instr.makeMap]) (hk _ _ rfl ⟨#[],0,[],?_,rfl,fun _ _=>rfl⟩ (by simp) (Kp.alloc _ _));show (w.heap.push _)[_]? = _;simp
theorem qI' {C:Mem} {ls:List (List Nd)} {v:Value} (h:SV (rSk rNd) C ls v) {i:Nat} {l:List Nd} (hi:ls[i]? = some l):∃ b o c,v = .slice (some ⟨b,o,none⟩) ls.length c /\ ∃ u,C b (o + i * 1) u /\ SV rNd C l u:=by
 obtain ⟨a,c,rfl,h1,h2⟩:=h;obtain ⟨b,o,rfl,a',c',hcell,hcap,hsl⟩:=h1.sk hi;exact ⟨b,o,c,rfl,_,hcell,a',c',rfl,hsl,hcap⟩
theorem sL' {C:Mem} {l:List Nd} {v:Value} (h:SV rNd C l v) {i:Nat} {m:Nd} (hi:l[i]? = some m):∃ b o c,v = .slice (some ⟨b,o,none⟩) l.length c /\ (I64 m.op /\ I64 m.a /\ I64 m.b) /\ ∀ j u,[iV m.op,iV m.a,iV m.b][j]? = some u -> C b (o + i * 3 + j) u:=by
 obtain ⟨a,c,rfl,h1,h2⟩:=h;obtain ⟨b,o,rfl,hcell⟩:=h1.at (i:=i) (ak' hi)
 obtain ⟨cs,⟨rfl,hi1⟩,hcc⟩:=hcell i m hi;exact ⟨b,o,c,rfl,hi1,hcc⟩
section
variable {C:Mem} {w:World} {B:BoT}
theorem oz' (hS:Sub C w) {vb:Value} (hvb:BoV C B vb) (a:Int) :
  CC 75 #[vb,iV a] w (fun e w'=>e = .returned (.bool (wo' B a)) /\ Kp [] w w'):=by
 refine oF Tryz.func75 ?_;obtain ⟨RES,hRES⟩:∃ r,wo' B a = r:=⟨_,rfl⟩
 rw [hRES];unfold wo' at hRES;obtain ⟨v1,v2,v3,rfl,hO,hE,hP⟩:=hvb;obtain ⟨ae,ce,rfl,_,_⟩:=id hE;have no:∀ {w'},Kp [] w w' -> RES = false -> Ending.returned (Go.Wx.one [.bool false]) = .returned (.bool RES) /\ Kp [] w w':=fun k h=>by subst h; exact ⟨rfl,k⟩
 refine cO (args:=[_,_]) 104 [.tmp 4] τok Tryz.func75 ?_;refine new fun b2 w1 hb2 h2 hs1 hk1=>?_;have h2:Bk w1.heap b2 [iV B.vars,v1,.slice ae B.ents.length ce,iV B.nat,v3] 26:=h2;refine ac' (fun g1=>?_) (fun g1=>?_)
 ·have g1:a < 0:=g1
  rw [if_pos (.inl g1)] at hRES;exact no hk1 hRES.symm
 have g1:¬ a < 0:=g1;refine lb h2 ?_;refine ac' (fun g2=>?_) (fun g2=>?_)
 ·have g2:(B.ents.length:Int) <= a:=g2
  rw [if_pos (.inr (.inl g2))] at hRES;exact no hk1 hRES.symm
 have g2:¬ (B.ents.length:Int) <= a:=g2;obtain ⟨n,rfl⟩:∃ n:Nat,a = (n:Int):=⟨a.toNat,by omega⟩
 obtain ⟨x,hx,_⟩:=af' (l:=B.ents) (k:=n) (by omega);rw [fM' hx] at hRES;obtain ⟨be,oe,ce',pe,hat⟩:=hE.at hx;obtain ⟨w1e,w2e,w3e,w4e,w5e,w6e,hcs,hki,hso,hpa,hin,hct,hty,hbo⟩:=eB' hat;injection pe with q1 q2 q3
 subst q1 q3;obtain ⟨as_,cs_,rfl,hso1,hso2⟩:=id hso;obtain ⟨ap,cp,rfl,hpa1,hpa2⟩:=id hpa;obtain ⟨ai,ci,rfl,hin1,hin2⟩:=id hin;obtain ⟨ac,cc,rfl,hct1,hct2⟩:=id hct;have l2:=hpa1.1;have l3:=hin1.1;have hone:∀ v ∈ [iV x.kind,.slice as_ x.sort.length cs_,.slice ap x.params.length cp,.slice ai x.indices.length ci,.slice ac x.ctors.length cc,w5e,w6e],v.oneCell' = true:=fun v hv=>by
  simp at hv;rcases hv with rfl | rfl | rfl | rfl | rfl | rfl | rfl
  ·rfl
  ·rfl
  ·rfl
  ·rfl
  ·rfl
  ·exact hty.one
  ·exact hbo.one
 refine lb h2 ?_;refine ix n rfl (by omega) ?_;refine ld (Cl.cell ((hS.tr hk1) _ _ _ (hcs 0 _ rfl))) ?_;refine ac' (fun g3=>?_) (fun g3=>?_)
 ·have g3:x.kind ≠ 1:=g3
  rw [if_pos (.inr (.inr g3))] at hRES;exact no hk1 hRES.symm
 have g3:¬ x.kind ≠ 1:=g3;rw [if_neg (by omega)] at hRES;refine lb h2 ?_;refine ix n rfl (by omega) ?_;refine ldN _ rfl (fun j u hj=>(hS.tr hk1) _ _ _ (hcs j u hj)) ?_;refine new fun b5 w2 hb5 h5 hs2 hk2=>?_;refine stN (vs:=[iV x.kind,.slice as_ x.sort.length cs_,.slice ap x.params.length cp,.slice ai x.indices.length ci,.slice ac x.ctors.length cc,w5e,w6e]) h5 rfl hone fun w3 h5 hs3 hk3=>?_;have k03:=hk1.tr (hk2.newSt hb5 hk3);have h5:Bk w3.heap b5 [iV x.kind,.slice as_ x.sort.length cs_,.slice ap x.params.length cp,.slice ai x.indices.length ci,.slice ac x.ctors.length cc,w5e,w6e] 40:=h5;have hS3:=hS.tr k03;refine lb h5 ?_;refine ac' (fun g4=>?_) (fun g4=>?_)
 ·have g4:(x.sort.length:Int) ≠ 2:=g4
  rw [if_pos (.inl (by omega))] at hRES;exact no k03 hRES.symm
 have g4:¬ (x.sort.length:Int) ≠ 2:=g4;obtain ⟨s0,hs0,_⟩:=af' (l:=x.sort) (k:=0) (by omega);obtain ⟨s1,hs1',_⟩:=af' (l:=x.sort) (k:=1) (by omega);have e0:x.sort.getD 0 ⟨0,0,0⟩ = s0:=by rw [List.getD_eq_getElem?_getD,hs0]; rfl
 have e1:x.sort.getD 1 ⟨0,0,0⟩ = s1:=by rw [List.getD_eq_getElem?_getD,hs1']; rfl
 rw [e0,e1] at hRES;obtain ⟨bs,os,cs',ps,_,hsc0⟩:=sL' hso hs0;obtain ⟨bs',os',cs'',ps',_,hsc1⟩:=sL' hso hs1';injection ps with q1 q2 q3
 injection ps' with r1 r2 r3
 rw [q1] at r1;injection r1 with r1
 injection r1 with r1 r4
 subst q1 q3 r1 r4;refine lb h5 ?_;refine ix 0 rfl (by omega) ?_;refine ld (Cl.cell (hS3 _ _ _ (hsc0 1 _ rfl))) ?_;refine ac' (fun g5=>?_) (fun g5=>?_)
 ·have g5:s0.a ≠ 1:=g5
  rw [if_pos (.inr (.inl g5))] at hRES;exact no k03 hRES.symm
 have g5:¬ s0.a ≠ 1:=g5;refine lb h5 ?_;refine ix 1 rfl (by omega) ?_;refine ldN [iV s1.op,iV s1.a,iV s1.b] rfl (fun j u hj=>hS3 _ _ _ (hsc1 j u hj)) ?_;refine run (hR' _ _ s1 ⟨3,0,0⟩ w3) ?_;refine eG' (fun g6=>?_) (fun g6=>?_);rotate_left
 ·have g6:¬ s1 = ⟨3,0,0⟩:=g6
  rw [if_pos (.inr (.inr (.inl g6)))] at hRES;exact no k03 hRES.symm
 have g6:s1 = ⟨3,0,0⟩:=g6;refine lb h5 ?_;refine lb h5 ?_;refine i6 ?_;refine ac' (fun g7=>?_) (fun g7=>?_)
 ·have g7:(0:Int) < (x.params.length:Int) + (x.indices.length:Int):=g7
  rw [if_pos (.inr (.inr (.inr (.inl (by omega)))))] at hRES;exact no k03 hRES.symm
 have g7:¬ (0:Int) < (x.params.length:Int) + (x.indices.length:Int):=g7;refine lb h5 ?_;refine ac' (fun g8=>?_) (fun g8=>?_)
 ·have g8:(x.ctors.length:Int) ≠ 2:=g8
  rw [if_pos (.inr (.inr (.inr (.inr (by omega)))))] at hRES;exact no k03 hRES.symm
 have g8:¬ (x.ctors.length:Int) ≠ 2:=g8;rw [if_neg (by
  rintro (h | h | h | h | h)
  ·omega
  ·exact g5 h
  ·exact h g6
  ·omega
  ·omega)] at hRES
 obtain ⟨c0,hc0,_⟩:=af' (l:=x.ctors) (k:=0) (by omega);obtain ⟨c1,hc1,_⟩:=af' (l:=x.ctors) (k:=1) (by omega);have d0:x.ctors.getD 0 default = c0:=by rw [List.getD_eq_getElem?_getD,hc0]; rfl
 have d1:x.ctors.getD 1 default = c1:=by rw [List.getD_eq_getElem?_getD,hc1]; rfl
 rw [d0,d1] at hRES;obtain ⟨bc,oc,cc',pc,hca⟩:=hct.at hc0;obtain ⟨bc',oc',cc'',pc',hca'⟩:=hct.at hc1;obtain ⟨va,vo,hccs,hva,hvo⟩:=hH' hca;obtain ⟨va',vo',hccs',hva',hvo'⟩:=hH' hca';injection pc with q1 q2 q3
 injection pc' with r1 r2 r3
 rw [q1] at r1;injection r1 with r1
 injection r1 with r1 r4
 subst q1 q3 r1 r4;obtain ⟨aa,ca,rfl,_,_⟩:=id hva;obtain ⟨ao,co,rfl,_,_⟩:=id hvo;obtain ⟨aa',ca',rfl,_,_⟩:=id hva';obtain ⟨ao',co',rfl,_,_⟩:=id hvo';refine aw' τok (fun z=>Kp [] w3 z) ?_;refine rV τok (rg 0 8) 4 (mR 12 8) (kQd w3) ?_;refine lk h5 ?_;refine ix 0 rfl (by omega) ?_;refine dG' [.slice aa c0.args.length ca,.slice ao c0.out.length co] rfl (fun j u hj=>hS3 _ _ _ (hccs j u hj)) ?_;refine lk h5 ?_;refine ix 1 rfl (by omega) ?_;refine dG' [.slice aa' c1.args.length ca',.slice ao' c1.out.length co'] rfl (fun j u hj=>hS3 _ _ _ (hccs' j u hj)) ?_;have o1:∀ v ∈ [Value.slice aa c0.args.length ca,.slice ao c0.out.length co],v.oneCell' = true:=fun v hv=>by simp at hv; rcases hv with rfl | rfl <;> rfl
 have o2:∀ v ∈ [Value.slice aa' c1.args.length ca',.slice ao' c1.out.length co'],v.oneCell' = true:=fun v hv=>by simp at hv; rcases hv with rfl | rfl <;> rfl
 refine gw' τok 8 9 3 (mR 12 9) (mB 12 [8,10,11]) rfl rfl rfl rfl rfl (by kernel_rfl) ?_ ?_
 ·refine new fun b6 w5 hb6 h6 hs5 hk5=>?_
  have hk5:Kp [] w3 w5:=hk5.rd;have lb6:w3.heap.size <= b6:=by
   have:b6 = w3.heap.size:=hb6;omega
  refine ⟨.inl hk5,?_⟩;refine nV τok 9 2 (mR 12 10) ?_;refine new fun b7 w6 hb7 h7 hs6 hk6=>?_;have k36:=hk5.tr hk6;have n67:b6 ≠ b7:=by have:=h6.lt; omega
  have lb7:w3.heap.size <= b7:=by have:=hk5.size; omega
  refine ⟨.inl k36,?_⟩;refine nV τok 10 1 (mR 12 11) ?_;refine stN (vs:=[.slice aa c0.args.length ca,.slice ao c0.out.length co]) (h6.kp hk6 (by simp)) rfl o1 fun w7 h6' hs7 hk7=>?_;have k37:Kp [] w3 w7:=k36.trans hk7 fun y hy hl=>by simp at hy; omega
  refine ⟨.inl k37,?_⟩;refine nV τok 11 0 (mR 12 12) ?_;refine stN (vs:=[.slice aa' c1.args.length ca',.slice ao' c1.out.length co']) (h7.kp hk7 (by simpa using Ne.symm n67)) rfl o2 fun w8 h7' hs8 hk8=>?_;refine ⟨.inr (by kernel_rfl),?_⟩;refine dV ?_;have k38:Kp [] w3 w8:=(k37.trans hk8 fun y hy hl=>by simp at hy; omega)
  have k08:=k03.tr k38;have h68:Bk w8.heap b6 [.slice aa c0.args.length ca,.slice ao c0.out.length co] 47:=(h6'.kp hk8 (by simpa using n67))
  have h78:Bk w8.heap b7 [.slice aa' c1.args.length ca',.slice ao' c1.out.length co'] 47:=h7';refine lb h68 ?_;refine ac' (fun y1=>?_) (fun y1=>?_);rotate_left
  ·have y1:¬ (c0.args.length:Int) = 0:=y1
   rw [decide_eq_false (by omega)] at hRES;exact no k08 (by rw [<- hRES]; rfl)
  have y1:(c0.args.length:Int) = 0:=y1;rw [decide_eq_true (by omega),Bool.true_and] at hRES;refine lb h78 ?_;refine ac' (fun y2=>?_) (fun y2=>?_);rotate_left
  ·have y2:¬ (c1.args.length:Int) = 1:=y2
   rw [decide_eq_false (by omega)] at hRES;exact no k08 (by rw [<- hRES]; rfl)
  have y2:(c1.args.length:Int) = 1:=y2;rw [decide_eq_true (by omega),Bool.true_and] at hRES;obtain ⟨r0,hr0,_⟩:=af' (l:=c1.args) (k:=0) (by omega);have hr0':c1.args.getD 0 [] = r0:=by rw [List.getD_eq_getElem?_getD,hr0]; rfl
  rw [hr0'] at hRES;obtain ⟨bx,ox,cx,px,ux,hux,hsx⟩:=qI' hva' hr0;injection px with q1 q2 q3
  subst q1 q3;obtain ⟨ax,cxx,rfl,_,_⟩:=id hsx;refine lb h78 ?_;refine ix 0 rfl (by omega) ?_;refine ld (Cl.cell ((hS.tr k08) _ _ _ hux)) ?_;refine ac' (fun y3=>?_) (fun y3=>?_);rotate_left
  ·have y3:¬ (r0.length:Int) = 1:=y3
   rw [decide_eq_false (by omega)] at hRES;exact no k08 (by rw [<- hRES]; rfl)
  have y3:(r0.length:Int) = 1:=y3;rw [decide_eq_true (by omega),Bool.true_and] at hRES;obtain ⟨m0,hm0,_⟩:=af' (l:=r0) (k:=0) (by omega);have hm0':r0.getD 0 ⟨0,0,0⟩ = m0:=by rw [List.getD_eq_getElem?_getD,hm0]; rfl
  rw [hm0'] at hRES;obtain ⟨bm,om,cm,pm,_,hmc⟩:=sL' hsx hm0;injection pm with q1 q2 q3
  subst q1 q3;refine lb h78 ?_;refine ix 0 rfl (by omega) ?_;refine ld (Cl.cell ((hS.tr k08) _ _ _ hux)) ?_;refine ix 0 rfl (by omega) ?_;refine ldN [iV m0.op,iV m0.a,iV m0.b] rfl (fun j u hj=>(hS.tr k08) _ _ _ (hmc j u hj)) ?_;refine run (gH' _ _ m0 ⟨9,(n:Int),0⟩ w8) ?_;subst hRES;exact ⟨rfl,k08⟩
 ·refine new fun b7 w5 hb7 h7 hs5 hk5=>?_
  have hk5:Kp [] w3 w5:=hk5.rd;have lb7:w3.heap.size <= b7:=by
   have:b7 = w3.heap.size:=hb7;omega
  refine ⟨.inl hk5,?_⟩;refine nV τok 8 2 (mR 12 10) ?_;refine new fun b6 w6 hb6 h6 hs6 hk6=>?_;have k36:=hk5.tr hk6;have n67:b6 ≠ b7:=by have:=h7.lt; omega
  have lb6:w3.heap.size <= b6:=by have:=hk5.size; omega
  refine ⟨.inl k36,?_⟩;refine nV τok 10 1 (mR 12 11) ?_;refine stN (vs:=[.slice aa c0.args.length ca,.slice ao c0.out.length co]) h6 rfl o1 fun w7 h6' hs7 hk7=>?_;have k37:Kp [] w3 w7:=k36.trans hk7 fun y hy hl=>by simp at hy; omega
  refine ⟨.inl k37,?_⟩;refine nV τok 11 0 (mR 12 12) ?_;refine stN (vs:=[.slice aa' c1.args.length ca',.slice ao' c1.out.length co']) ((h7.kp hk6 (by simp)).kp hk7 (by simpa using Ne.symm n67)) rfl o2 fun w8 h7' hs8 hk8=>?_;refine ⟨.inr (by kernel_rfl),?_⟩;refine dV ?_;have k38:Kp [] w3 w8:=(k37.trans hk8 fun y hy hl=>by simp at hy; omega)
  have k08:=k03.tr k38;have h68:Bk w8.heap b6 [.slice aa c0.args.length ca,.slice ao c0.out.length co] 47:=(h6'.kp hk8 (by simpa using n67))
  have h78:Bk w8.heap b7 [.slice aa' c1.args.length ca',.slice ao' c1.out.length co'] 47:=h7';refine lb h68 ?_;refine ac' (fun y1=>?_) (fun y1=>?_);rotate_left
  ·have y1:¬ (c0.args.length:Int) = 0:=y1
   rw [decide_eq_false (by omega)] at hRES;exact no k08 (by rw [<- hRES]; rfl)
  have y1:(c0.args.length:Int) = 0:=y1;rw [decide_eq_true (by omega),Bool.true_and] at hRES;refine lb h78 ?_;refine ac' (fun y2=>?_) (fun y2=>?_);rotate_left
  ·have y2:¬ (c1.args.length:Int) = 1:=y2
   rw [decide_eq_false (by omega)] at hRES;exact no k08 (by rw [<- hRES]; rfl)
  have y2:(c1.args.length:Int) = 1:=y2;rw [decide_eq_true (by omega),Bool.true_and] at hRES;obtain ⟨r0,hr0,_⟩:=af' (l:=c1.args) (k:=0) (by omega);have hr0':c1.args.getD 0 [] = r0:=by rw [List.getD_eq_getElem?_getD,hr0]; rfl
  rw [hr0'] at hRES;obtain ⟨bx,ox,cx,px,ux,hux,hsx⟩:=qI' hva' hr0;injection px with q1 q2 q3
  subst q1 q3;obtain ⟨ax,cxx,rfl,_,_⟩:=id hsx;refine lb h78 ?_;refine ix 0 rfl (by omega) ?_;refine ld (Cl.cell ((hS.tr k08) _ _ _ hux)) ?_;refine ac' (fun y3=>?_) (fun y3=>?_);rotate_left
  ·have y3:¬ (r0.length:Int) = 1:=y3
   rw [decide_eq_false (by omega)] at hRES;exact no k08 (by rw [<- hRES]; rfl)
  have y3:(r0.length:Int) = 1:=y3;rw [decide_eq_true (by omega),Bool.true_and] at hRES;obtain ⟨m0,hm0,_⟩:=af' (l:=r0) (k:=0) (by omega);have hm0':r0.getD 0 ⟨0,0,0⟩ = m0:=by rw [List.getD_eq_getElem?_getD,hm0]; rfl
  rw [hm0'] at hRES;obtain ⟨bm,om,cm,pm,_,hmc⟩:=sL' hsx hm0;injection pm with q1 q2 q3
  subst q1 q3;refine lb h78 ?_;refine ix 0 rfl (by omega) ?_;refine ld (Cl.cell ((hS.tr k08) _ _ _ hux)) ?_;refine ix 0 rfl (by omega) ?_;refine ldN [iV m0.op,iV m0.a,iV m0.b] rfl (fun j u hj=>(hS.tr k08) _ _ _ (hmc j u hj)) ?_;refine run (gH' _ _ m0 ⟨9,(n:Int),0⟩ w8) ?_;subst hRES;exact ⟨rfl,k08⟩
end
end Go.Proofs.YtdfmgkaecdkhnaaGreat
