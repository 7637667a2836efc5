import Derived.Test.YtmpgcpemnjbgjaaGreatMm20
set_option linter.unusedVariables false
set_option linter.unusedSimpArgs false
set_option maxRecDepth 100000
namespace Go.Proofs.YtmpgcpemnjbgjaaGreat
open Go.Wx Cd Tm Lv
def CxP (P:Nd -> Prop) (c:Ctx):Prop:=∀ (i:Nat) q,c[i]? = some q -> Ft P (i:Int) q.1 /\ ∀ x,q.2 = some x -> Ft P (i:Int) x
structure IndA (B B':BoT) (P:Nd -> Prop) (a:Int):Prop where
 sort:(entD B' a).sort = (entD B a).sort
 params:(entD B' a).params = (entD B a).params
 indices:(entD B' a).indices = (entD B a).indices
 fs:Ft P 0 (tr (entD B a).sort)
 fp:∀ (k:Nat) y,(psM B a)[k]? = some y -> Ft P (k:Int) y
 fi:∀ (k:Nat) y,(qiM B a)[k]? = some y -> Ft P (((psM B a).length + k:Nat):Int) y
structure Agr (B B':BoT) (P:Nd -> Prop):Prop where
 qk:Qk P
 vars:B'.vars = B.vars
 ords:B'.orders = B.orders
 sub:∀ m,P m -> QB B m
 lo:∀ m,m.op ≠ 8 -> m.op ≠ 9 -> m.op ≠ 10 -> m.op ≠ 11 -> QB B m -> P m
 d8:∀ m,P m -> m.op = 8 -> entD B' m.a = entD B m.a /\ Ft P 0 (tr (entD B m.a).type) /\ Ft P 0 (tr (entD B m.a).body)
 d9:∀ m,P m -> m.op = 9 -> 0 <= m.a -> IndA B B' P m.a
 d10:∀ m,P m -> m.op = 10 \/ m.op = 11 -> entD B' m.a = entD B m.a /\ P ⟨9,m.a,0⟩ /\ ∀ k:Nat,k < (entD B m.a).ctors.length -> P ⟨10,m.a,(k:Int)⟩ /\ (∀ (i:Nat) y,(agM B m.a k)[i]? = some y -> Ft P (((psM B m.a).length + i:Nat):Int) y) /\ ∀ y ∈ ouM B m.a k,Ft P (((psM B m.a).length + (agM B m.a k).length:Nat):Int) y
section
variable {B B':BoT} {P:Nd -> Prop} {cx:Ctx} {x:Tr}
def EqE {α:Type} (R:α -> Prop) (m m':Except Int α):Prop:=m' = m /\ ∀ z,m = .ok z -> R z
def Eqv {α:Type} (R:α -> Prop) (m m':Except Int (α × Nat)):Prop:=m' = m /\ ∀ z,m = .ok z -> R z.1
end
section
variable {B B':BoT} {P:Nd -> Prop} {cx:Ctx} {x:Tr}
def FtS (P:Nd -> Prop) (x:Tr):Prop:=∃ N:Int,Ft P N x
def RfEq (P:Nd -> Prop) (rc rc':RcF):Prop:=∀ x m,FtS P x -> rc' x m = rc x m
def RcEq (P:Nd -> Prop) (rc rc':RcC):Prop:=∀ cx x y u n,CxP P cx -> cx.length <= 260 -> Ft P (cx.length:Int) x -> Ft P (cx.length:Int) y -> rc' cx x y u n = rc cx x y u n
def Par (P:Nd -> Prop) (a b:Int) (l:List Tr):Prop:=∀ (i:Nat) y,l[i]? = some y -> Ft P (if i % 2 = 0 then a else b) y
end
section
variable {B B':BoT} {P:Nd -> Prop} {cx:Ctx} {x:Tr} {rc rc':RcJ}
def RjEq (P:Nd -> Prop) (rc rc':RcJ):Prop:=∀ cx t n,CxP P cx -> cx.length <= 260 -> Ft P (cx.length:Int) t -> Eqv (Ft P (cx.length:Int)) (rc cx t n) (rc' cx t n)
structure FamA (B B':BoT) (P:Nd -> Prop) (a:Int):Prop where
 fam:ej' B B.ents.length a = true
 ent:entD B' a = entD B a
 p9:P ⟨9,a,0⟩
 ind:IndA B B' P a
 ct:∀ k:Nat,k < (entD B a).ctors.length -> P ⟨10,a,(k:Int)⟩ /\ (∀ (i:Nat) y,(agM B a k)[i]? = some y -> Ft P (((psM B a).length + i:Nat):Int) y) /\ ∀ y ∈ ouM B a k,Ft P (((psM B a).length + (agM B a k).length:Nat):Int) y
end
mutual
theorem kH':∀ (x:Tr) (s:Md),okT cnt nx x s -> ∀ m ∈ row x,ah' m = true
 | .mk n ks,s,h,m,hm=>by
  obtain ⟨h1,h2⟩:=h;simp only [row,List.mem_cons] at hm;rcases hm with rfl | hm
  ·cases s with
   | tm=>exact (bC' h1).1
   | fn =>
    simp only [cnt] at h1;split at h1
    ·rename_i q; exact q.2
    ·cases h1
   | am =>
    simp only [cnt] at h1;split at h1
    ·rename_i q; exact q.2
    ·cases h1
  ·exact kI' ks n s 0 h2 m hm
theorem kI':∀ (l:List Tr) (n:Nd) (s:Md) (k:Nat),okL cnt nx l n s k -> ∀ m ∈ rows l,ah' m = true
 | [],n,s,k,_,m,hm=>by simp [rows] at hm
 | y :: r,n,s,k,h,m,hm=>by
  obtain ⟨h1,h2⟩:=h;simp only [rows,List.mem_append] at hm;rcases hm with hm | hm
  ·exact kH' y _ h1 m hm
  ·exact kI' r n s (k + 1) h2 m hm
end
def kJ' (B:BoT) (known:Nat) (self:Int) (l:List Nd) (below:Int):Int :=
 if bz' l ≠ 0 then bz' l else if hQ' (tr l) below = false then 8 else if l.any (fun m=>!bj' B known self m) = true then 8 else 0
def cf' (B:BoT) (known:Nat) (self step:Int):List (List Nd) -> Int -> Int
 | [],_=>0
 | l :: r,below=>if kJ' B known self l below ≠ 0 then kJ' B known self l below else cf' B known self step r (below + step)
def et' (l:List Nd):Int:=if (l.getD 0 ⟨0,0,0⟩).op ≠ 2 then 8 else 0
def dz' (B:BoT) (i:Nat) (x:EnT):List CtT -> Int
 | []=>0
 | c :: r=>if 16 < c.args.length then 5 else if c.out.length ≠ x.indices.length then 8
  else if cf' B i i 1 c.args (x.params.length:Int) ≠ 0 then cf' B i i 1 c.args (x.params.length:Int)
  else if cf' B i i 0 c.out ((x.params.length:Int) + (c.args.length:Int)) ≠ 0 then cf' B i i 0 c.out ((x.params.length:Int) + (c.args.length:Int))
  else dz' B i x r
def aT' (a b:Int):Int:=if a ≠ 0 then a else b
def cQ' (B:BoT) (i:Nat) (x:EnT):Int :=
 if x.kind = 1 then (if 0 < x.type.length + x.body.length then 8 else if 16 < x.params.length \/ 16 < x.indices.length \/ 16 < x.ctors.length then 5
  else aT' (kJ' B i (-1) x.sort 0) (aT' (et' x.sort) (aT' (cf' B i (-1) 1 x.params 0) (aT' (cf' B i (-1) 1 x.indices (x.params.length:Int)) (dz' B i x x.ctors)))))
 else if x.kind = 2 then (if 0 < x.sort.length + x.params.length + x.indices.length + x.ctors.length then 8 else cf' B i (-1) 0 [x.type,x.body] 0)
 else 8
def bU' (B:BoT):List EnT -> Nat -> Int
 | [],_=>0
 | x :: r,i=>aT' (cQ' B i x) (bU' B r (i + 1))
def sB' (B:BoT) (a:Int):Bool :=
 if a < 0 \/ (B.ents.length:Int) <= a \/ (entD B a).kind ≠ 1 then false
 else if (entD B a).sort.length ≠ 2 \/ ((entD B a).sort.getD 0 ⟨0,0,0⟩).a ≠ 1 \/ (entD B a).sort.getD 1 ⟨0,0,0⟩ ≠ ⟨3,0,0⟩ \/ 0 < (entD B a).params.length + (entD B a).indices.length \/ (entD B a).ctors.length ≠ 2 then false
 else decide (((entD B a).ctors.getD 0 default).args.length = 0) && (decide (((entD B a).ctors.getD 1 default).args.length = 1) && (decide ((((entD B a).ctors.getD 1 default).args.getD 0 []).length = 1) && decide ((((entD B a).ctors.getD 1 default).args.getD 0 []).getD 0 ⟨0,0,0⟩ = ⟨9,a,0⟩)))
def kK' (B:BoT):List (Int × Int) -> G -> Bool
 | [],_=>true
 | p :: r,g=>if p.1 < 0 \/ (B.ents.length:Int) <= p.1 \/ (entD B p.1).kind ≠ 2 \/ p.2 < 1 \/ 3 < p.2 \/ 0 < (g p.1 (-1)).getD 0 + (g (-1) p.2).getD 0 then false else kK' B r (putG (putG g p.1 (-1) 1) (-1) p.2 1)
def nQ' (B:BoT):Bool:=if (B.nat ≠ -1 /\ sB' B B.nat = false) \/ (B.nat = -1 /\ 0 < B.prims.length) then false else kK' B B.prims fun _ _=>none
def as' (B:BoT):Int:=if gw' B.vars B.orders ≠ 0 then gw' B.vars B.orders else if 64 < B.ents.length then 5 else aT' (bU' B B.ents 0) (if nQ' B = true then 0 else 22)
def aE' (B:BoT) (below:Int) (t:List Nd):Int:=if as' B ≠ 0 then as' B else if below < 0 then 1 else kJ' B B.ents.length (-1) t below
def eY' (B:BoT):List (List Nd × List Nd) -> Nat -> Int
 | [],_=>0
 | q :: r,i=>if aE' B i q.1 ≠ 0 then aE' B i q.1 else if q.2.length = 0 then eY' B r (i + 1) else if aE' B i q.2 ≠ 0 then aE' B i q.2 else eY' B r (i + 1)
def nJ' (B:BoT) (c:List (List Nd × List Nd)) (t:List Nd):Int :=
 if as' B ≠ 0 then as' B else if 256 < c.length then 5 else if eY' B c 0 ≠ 0 then eY' B c 0 else aE' B c.length t
theorem bw' {a b:Int}:aT' a b = 0 ↔ a = 0 /\ b = 0:=by
 unfold aT';split
 ·rename_i h
  exact ⟨fun e=>absurd e h,fun e=>absurd e.1 h⟩
 ·rename_i h
  exact ⟨fun e=>⟨by omega,e⟩,fun e=>e.2⟩
theorem is' {l:List Nd} (h:bz' l = 0):l.length <= 4096 /\ l = row (tr l) /\ Ok .tm (tr l):=by
 unfold bz' at h;split at h
 ·cases h
 ·split at h
  ·rename_i g1 g2
   obtain ⟨x,hx⟩:=Option.isSome_iff_exists.1 g2;obtain ⟨h1,h2⟩:=ol' hx;have:tr l = x:=by unfold tr; rw [hx]; rfl
   rw [this];exact ⟨by omega,h1,h2⟩
  ·cases h
section
variable {B:BoT}
theorem nc' {x:Tr} {N:Int} (h0:0 <= N):hQ' x N = true ↔ Bl x N:=by
 unfold hQ';rw [List.all_eq_true];constructor
 ·intro h q hq
  have:=h q hq;simp only [decide_eq_true_eq] at this;omega
 ·intro h q hq
  have:=h q hq;simp only [decide_eq_true_eq];omega
theorem ju' {known:Nat} {self:Int} {l:List Nd} {N:Int} (h0:0 <= N) (h:kJ' B known self l N = 0):l = row (tr l) /\ Ft (aU' B known self) N (tr l):=by
 unfold kJ' at h;split at h
 ·rename_i g; exact absurd h g
 rename_i g1;obtain ⟨h1,h2,h3⟩:=is' (l:=l) (by omega);split at h
 ·cases h
 rename_i g2;split at h
 ·cases h
 rename_i g3;refine ⟨h2,h3,by rw [<- h2]; exact h1,(nc' h0).1 (by simpa using g2),fun m hm=>?_⟩;rw [<- h2] at hm;have:¬ (l.any fun m=>!bj' B known self m) = true:=g3;rw [List.any_eq_true] at this;unfold aU';cases hn:bj' B known self m with
 | true=>rfl
 | false=>exact absurd ⟨m,hm,by simp [hn]⟩ this
theorem tL' {known:Nat} {self:Int} {x:Tr} {N:Int} (h0:0 <= N) (h:Ft (aU' B known self) N x):kJ' B known self (row x) N = 0:=by
 unfold kJ';have hs:=bn' h.ok h.len;rw [if_neg (by omega),dw' h.ok,if_neg (by rw [(nc' h0).2 h.bl]; simp),if_neg ?_];rw [List.any_eq_true];rintro ⟨m,hm,hn⟩;have:=h.al m hm;unfold aU' at this;rw [this] at hn;cases hn
theorem dX' {known:Nat} {self step:Int} (hs:0 <= step):∀ (ls:List (List Nd)) (N:Int),0 <= N -> cf' B known self step ls N = 0 -> ls = (ls.map tr).map row /\ ∀ (k:Nat) y,(ls.map tr)[k]? = some y -> Ft (aU' B known self) (N + k * step) y
 | [],N,h0,h=>⟨rfl,fun k y hy=>by simp at hy⟩
 | l :: r,N,h0,h=>by
  simp only [cf'] at h;split at h
  ·rename_i g; exact absurd h g
  rename_i g;obtain ⟨h1,h2⟩:=ju' (l:=l) h0 (Decidable.not_not.1 g);obtain ⟨h3,h4⟩:=dX' hs r (N + step) (by omega) h;refine ⟨?_,fun k y hy=>?_⟩
  ·rw [List.map_cons,List.map_cons,<- h1,<- h3]
  ·cases k with
   | zero =>
    simp only [List.map_cons,List.getElem?_cons_zero,Option.some.injEq] at hy;subst hy;exact h2.mono (by simp)
   | succ k =>
    simp only [List.map_cons,List.getElem?_cons_succ] at hy;exact (h4 k y hy).mono (by
     have:((k + 1:Nat):Int) * step = (k:Int) * step + step:=by
      rw [Int.natCast_add,Int.add_mul]; simp
     omega)
theorem kL' {i:Nat} {x:EnT}:∀ (cs:List CtT),dz' B i x cs = 0 -> ∀ (k:Nat) c,cs[k]? = some c -> ∃ ga go,GoodC B i x.params.length x.indices.length c ga go
 | [],h,k,c,hc=>by simp at hc
 | c0 :: r,h,k,c,hc=>by
  simp only [dz'] at h;split at h
  ·cases h
  split at h
  ·cases h
  split at h
  ·rename_i g; exact absurd h g
  split at h
  ·rename_i g; exact absurd h g
  rename_i g1 g2 g3 g4;cases k with
  | succ k=>exact kL' r h k c (by simpa using hc)
  | zero =>
   simp only [List.getElem?_cons_zero,Option.some.injEq] at hc;subst hc;obtain ⟨a1,a2⟩:=dX' (step:=1) (by omega) c0.args (x.params.length:Int) (by omega) (Decidable.not_not.1 g3);obtain ⟨b1,b2⟩:=dX' (step:=0) (by omega) c0.out ((x.params.length:Int) + (c0.args.length:Int)) (by omega) (Decidable.not_not.1 g4);refine ⟨c0.args.map tr,c0.out.map tr,a1,b1,by simp; omega,by simp; omega,fun k y hy=>(a2 k y hy).mono (by omega),fun y hy=>?_⟩;obtain ⟨k,hk⟩:=List.getElem?_of_mem hy;exact (b2 k y hk).mono (by simp)
theorem pT' {i:Nat} {x:EnT} (h:cQ' B i x = 0):(∃ s ps qi,GoodF B i x s ps qi) \/ ∃ ty bo,rn' B i x ty bo:=by
 unfold cQ' at h;split at h
 ·rename_i gk
  split at h
  ·cases h
  split at h
  ·cases h
  rename_i g1 g2;obtain ⟨h1,h⟩:=bw'.1 h;obtain ⟨h2,h⟩:=bw'.1 h;obtain ⟨h3,h⟩:=bw'.1 h;obtain ⟨h4,h5⟩:=bw'.1 h;obtain ⟨s1,s2⟩:=ju' (by omega) h1;obtain ⟨p1,p2⟩:=dX' (step:=1) (by omega) x.params 0 (by omega) h3;obtain ⟨q1,q2⟩:=dX' (step:=1) (by omega) x.indices (x.params.length:Int) (by omega) h4;refine .inl ⟨tr x.sort,x.params.map tr,x.indices.map tr,gk,s1,s2,?_,p1,q1,by simp; omega,by simp; omega,by omega,fun k y hy=>(p2 k y hy).mono (by omega),fun k y hy=>(q2 k y hy).mono (by simp),fun k c hc=>?_⟩
  ·unfold et' at h2
   split at h2
   ·cases h2
   ·rename_i g3
    have:(x.sort.getD 0 ⟨0,0,0⟩).op = (tr x.sort).n.op:=by
     rw [s1,dw' s2.ok];obtain ⟨n,ks⟩:=tr x.sort;simp [row,Tr.n]
    omega
  ·obtain ⟨ga,go,hg⟩:=kL' x.ctors h5 k c hc
   exact ⟨ga,go,by simpa using hg⟩
 split at h
 ·rename_i gk0 gk
  split at h
  ·cases h
  obtain ⟨h1,h2⟩:=dX' (step:=0) (by omega) [x.type,x.body] 0 (by omega) h;simp only [List.map_cons,List.map_nil,List.cons.injEq] at h1;exact .inr ⟨tr x.type,tr x.body,gk,h1.1,h1.2.1,(h2 0 _ rfl).mono (by simp),(h2 1 _ rfl).mono (by simp)⟩
 ·cases h
theorem gR':∀ (l:List EnT) (i:Nat),bU' B l i = 0 -> ∀ (k:Nat) x,l[k]? = some x -> cQ' B (i + k) x = 0
 | [],i,h,k,x,hx=>by simp at hx
 | y :: r,i,h,k,x,hx=>by
  obtain ⟨h1,h2⟩:=bw'.1 h;cases k with
  | zero =>
   simp only [List.getElem?_cons_zero,Option.some.injEq] at hx;subst hx;exact h1
  | succ k =>
   have:=gR' r (i + 1) h2 k x (by simpa using hx)
   rwa [show i + (k + 1) = i + 1 + k by omega]
theorem cn' (h:as' B = 0):GoodB B:=by
 unfold as' at h;split at h
 ·rename_i g; exact absurd h g
 split at h
 ·cases h
 rename_i g1 g2;obtain ⟨h1,h2⟩:=bw'.1 h;refine ⟨by omega,by omega,fun i x hx=>?_⟩;have:=gR' B.ents 0 h1 i x hx;rw [Nat.zero_add] at this;exact pT' this
theorem nd' {t:List Nd} {N:Int} (h0:0 <= N) (h:aE' B N t = 0):t = row (tr t) /\ Ft (QB B) N (tr t):=by
 unfold aE' at h;split at h
 ·rename_i g; exact absurd h g
 rw [if_neg (by omega)] at h;exact ju' h0 h
theorem jv' (hr:as' B = 0) {x:Tr} {N:Int} (h0:0 <= N) (h:Ft (QB B) N x):aE' B N (row x) = 0:=by
 unfold aE';rw [if_neg (by omega),if_neg (by omega)];exact tL' h0 h
def cxR (c:List (List Nd × List Nd)):Ctx:=c.map fun q=>(tr q.1,if q.2.length = 0 then none else some (tr q.2))
theorem ne' (hr:as' B = 0):∀ (c:Ctx) (i:Nat),(∀ (k:Nat) q,c[k]? = some q -> Ft (QB B) ((i + k:Nat):Int) q.1 /\ ∀ x,q.2 = some x -> Ft (QB B) ((i + k:Nat):Int) x) -> eY' B (c.map bdR) i = 0
 | [],i,h=>rfl
 | q :: r,i,h=>by
  have h0:=h 0 q rfl;rw [Nat.add_zero] at h0;have ht:=ne' hr r (i + 1) fun k q' hq'=>by
   have:=h (k + 1) q' (by simpa using hq')
   rwa [show i + (k + 1) = i + 1 + k by omega] at this
  simp only [List.map_cons,eY'];have e1:aE' B (i:Int) (bdR q).1 = 0:=jv' hr (by omega) h0.1;rw [if_neg (by omega)];split
  ·exact ht
  ·rename_i g
   obtain ⟨ty,o⟩:=q;cases o with
   | none=>simp [bdR,oZ'] at g
   | some x =>
    have e2:aE' B (i:Int) (bdR (ty,some x)).2 = 0:=jv' hr (by omega) (h0.2 x rfl);rw [if_neg (by omega)];exact ht
theorem jw' (hr:as' B = 0) {c:Ctx} (hc:CxOk B c) (hl:c.length <= 256) {x:Tr} (hx:Ft (QB B) (c.length:Int) x):nJ' B (c.map bdR) (row x) = 0:=by
 unfold nJ';have:=ne' hr c 0 fun k q hq=>by rw [Nat.zero_add]; exact hc k q hq
 rw [if_neg (by omega),if_neg (by simp; omega),if_neg (by omega)];exact jv' hr (by omega) (by simpa using hx)
end
def LkP (C:Mem) (B:BoT) (known:Nat) (self:Int) (v:Value):Prop :=
 ∃ v1 v2 v3,v = .agg #[iV B.vars,v1,v2,iV B.nat,v3,iV (known:Int),iV self] /\ SV rOr C B.orders v1 /\ SV rEn C B.ents v2 /\ SV rPr C B.prims v3 /\ known <= B.ents.length
section
variable {C:Mem} {w:World} {B:BoT} {known:Nat} {self:Int}
theorem kM' (hS:Sub C w) {v2:Value} (hE:SV rEn C B.ents v2) {a:Nat} (ha:a < B.ents.length):∃ b o c ac cc,v2 = .slice (some ⟨b,o,none⟩) B.ents.length c /\ C b (o + a * 7) (iV (entD B (a:Int)).kind) /\ C b (o + a * 7 + 4) (.slice ac (entD B (a:Int)).ctors.length cc):=by
 obtain ⟨x,hx,_⟩:=af' (l:=B.ents) (k:=a) ha;obtain ⟨b,o,c,rfl,hat⟩:=hE.at hx;obtain ⟨w1e,w2e,w3e,w4e,w5e,w6e,hcs,hki,hso,hpa,hin,hct,hty,hbo⟩:=dZ' hat;obtain ⟨ac,cc,rfl,_,_⟩:=hct;rw [ek' hx];exact ⟨b,o,c,ac,cc,rfl,hcs 0 _ rfl,hcs 4 _ rfl⟩
theorem gS' (hS:Sub C w) {v:Value} (hv:LkP C B known self v) {a:Int} (h0:0 <= a) :
  CC 147 #[v,iV a] w (fun e w'=>e = .returned (.bool (ej' B known a)) /\ Kp [] w w'):=by
 refine oF Tryz.func147 ?_;obtain ⟨v1,v2,v3,rfl,hO,hE,hP,hk⟩:=hv;refine cO (args:=[_,_]) 19 [.tmp 4] τok Tryz.func147 ?_;refine new fun b2 w1 hb2 h2 hs1 hk1=>?_;have h2:Bk w1.heap b2 [iV B.vars,v1,v2,iV B.nat,v3,iV (known:Int),iV self] 122:=h2;refine lb h2 ?_;refine ac' (fun g=>?_) (fun g=>?_)
 ·have g:a < (known:Int):=g
  obtain ⟨n,rfl⟩:∃ n:Nat,a = (n:Int):=⟨a.toNat,by omega⟩
  obtain ⟨b,o,c,ac,cc,rfl,hc1,hc2⟩:=kM' hS hE (a:=n) (by omega);refine lb h2 ?_;refine ix n rfl (by omega) ?_;refine ld (Cl.cell ((hS.tr hk1) _ _ _ hc1)) ?_;refine ⟨?_,hk1⟩;have:ej' B known (n:Int) = decide ((entD B (n:Int)).kind = 1):=by
   unfold ej';rw [decide_eq_true (by omega:(0:Int) <= (n:Int)),decide_eq_true g]
   rfl
  rw [this]
  rfl
 ·have g:¬ a < (known:Int):=g
  refine ⟨?_,hk1⟩;have:ej' B known a = false:=by
   unfold ej';rw [decide_eq_false g];simp
  rw [this]
  rfl
theorem tM' (hS:Sub C w) {v:Value} (hv:LkP C B known self v) {m:Nd} (hm:ah' m = true) (hi:I64 m.op /\ I64 m.a /\ I64 m.b) :
  CC 106 #[v,.agg #[iV m.op,iV m.a,iV m.b]] w (fun e w'=>e = .returned (.bool (bj' B known self m)) /\ Kp [] w w'):=by
 refine oF Tryz.func106 ?_;have hvv:=hv;obtain ⟨v1,v2,v3,rfl,hO,hE,hP,hk⟩:=hv;have hpb:=aW' hm;obtain ⟨RES,hRES⟩:∃ r,bj' B known self m = r:=⟨_,rfl⟩
 rw [hRES];unfold bj' at hRES;refine cO (args:=[_,_]) 72 [.tmp 4] τok Tryz.func106 ?_;refine new fun b2 w1 hb2 h2 hs1 hk1=>?_;have h2:Bk w1.heap b2 [iV B.vars,v1,v2,iV B.nat,v3,iV (known:Int),iV self] 122:=h2;refine new fun b3 w2 hb3 h3 hs2 hk2=>?_;have h3:Bk w2.heap b3 [iV m.op,iV m.a,iV m.b] 43:=h3;have h2:=h2.kp hk2 (by simp);have k02:=hk1.tr hk2;have hS2:=hS.tr k02;have hld:∀ (j:Nat) (u:Value),[iV B.vars,v1,v2,iV B.nat,v3,iV (known:Int),iV self][j]? = some u -> Cl w2.heap b2 (0 + j) u:=fun j u hj=>by rw [Nat.zero_add]; exact h2.cl hj
 refine lb h3 ?_;refine ac' (fun g1=>?_) (fun g1=>?_)
 ·have g1:m.op = 3:=g1
  rw [if_pos g1] at hRES;refine lb h3 ?_;refine lb h2 ?_;subst hRES;exact ⟨rfl,k02⟩
 have g1:¬ m.op = 3:=g1;rw [if_neg g1] at hRES;refine ac' (fun g2=>?_) (fun g2=>?_)
 ·have g2:m.op = 8:=g2
  rw [if_pos g2] at hRES;refine lb h3 ?_;refine lb h2 ?_;refine ac' (fun g=>?_) (fun g=>?_)
  ·have g:m.a < (known:Int):=g
   obtain ⟨n,hn⟩:∃ n:Nat,m.a = (n:Int):=⟨m.a.toNat,by omega⟩
   obtain ⟨b,o,c,ac,cc,rfl,hc1,hc2⟩:=kM' hS hE (a:=n) (by omega);refine lb h2 ?_;refine lb h3 ?_;refine ix n hn (by omega) ?_;refine ld (Cl.cell (hS2 _ _ _ hc1)) ?_;rw [decide_eq_true hpb.2.2.1,decide_eq_true g,hn] at hRES;subst hRES;exact ⟨rfl,k02⟩
  ·have g:¬ m.a < (known:Int):=g
   rw [decide_eq_false g] at hRES;simp only [Bool.false_and,Bool.and_false] at hRES;subst hRES;exact ⟨rfl,k02⟩
 have g2:¬ m.op = 8:=g2;rw [if_neg g2] at hRES;refine ac' (fun g3=>?_) (fun g3=>?_)
 ·have g3:m.op = 9:=g3
  rw [if_pos g3] at hRES;refine lb h3 ?_;refine lb h2 ?_;refine ac' (fun g=>?_) (fun g=>?_)
  ·have g:m.a = self:=g
   rw [decide_eq_true g] at hRES;simp only [Bool.true_or] at hRES;subst hRES;exact ⟨rfl,k02⟩
  ·have g:¬ m.a = self:=g
   rw [decide_eq_false g] at hRES;simp only [Bool.false_or] at hRES;refine ldN [iV B.vars,v1,v2,iV B.nat,v3,iV (known:Int),iV self] rfl hld ?_;refine lb h3 ?_;refine ab' (gS' hS2 hvv hpb.2.2.1) ?_;rintro e w3 ⟨rfl,hk3⟩;subst hRES;exact ⟨rfl,k02.tr hk3⟩
 have g3:¬ m.op = 9:=g3;rw [if_neg g3] at hRES;refine ac' (fun g4=>?_) (fun g4=>?_)
 ·have g4:m.op = 11:=g4
  rw [if_pos g4] at hRES;refine ldN [iV B.vars,v1,v2,iV B.nat,v3,iV (known:Int),iV self] rfl hld ?_;refine lb h3 ?_;refine ab' (gS' hS2 hvv hpb.2.2.1) ?_;rintro e w3 ⟨rfl,hk3⟩;subst hRES;exact ⟨rfl,k02.tr hk3⟩
 have g4:¬ m.op = 11:=g4;rw [if_neg g4] at hRES;refine ac' (fun g5=>?_) (fun g5=>?_)
 ·have g5:m.op = 10:=g5
  rw [if_pos g5] at hRES;refine am' τok (fun z=>Kp [] w2 z) ?_;refine rV τok [0,1,2] 16 (mR 19 3) (kQd w2) ?_;refine aO' [iV B.vars,v1,v2,iV B.nat,v3,iV (known:Int),iV self] rfl hld ?_;refine lk h3 ?_;refine nV τok 3 15 (mR 19 4) ?_;refine ab' (gS' (w:=(dr w2)) hS2 hvv hpb.2.2.1) ?_;rintro e w3 ⟨rfl,hk3⟩;have hk3:Kp [] w2 w3:=hk3.rd;refine ⟨.inl hk3,?_⟩;refine rV τok (rg 4 15) 0 (mR 19 19) hk3 ?_;cases hf:ej' B known m.a with
  | false =>
   rw [hf] at hRES;simp only [Bool.false_and] at hRES;refine dV ?_;subst hRES;exact ⟨rfl,k02.tr hk3⟩
  | true =>
   rw [hf] at hRES;simp only [Bool.true_and] at hRES;have hf':=hf;simp only [ej',Bool.and_eq_true,decide_eq_true_eq] at hf';obtain ⟨n,hn⟩:∃ n:Nat,m.a = (n:Int):=⟨m.a.toNat,by omega⟩
   obtain ⟨b,o,c,ac,cc,rfl,hc1,hc2⟩:=kM' hS hE (a:=n) (by omega);refine lk h3 ?_;refine lk h2 ?_;refine lk h3 ?_;refine ix n hn (by omega) ?_;refine ldK (hS2 _ _ _ hc2) ?_;refine dV ?_;rw [hn] at hRES;subst hRES;exact ⟨rfl,k02.tr hk3⟩
 have g5:¬ m.op = 10:=g5;rw [if_neg g5] at hRES;subst hRES;exact ⟨rfl,k02⟩
theorem jx' (hS:Sub C w) (hold:∀ b o v,C b o v -> b < w.heap.size) {v:Value} (hv:LkP C B known self v) {l:List Nd} {vl:Value} (hl:SV rNd C l vl) {below:Int} (hb:I64 below) :
  CC 77 #[v,vl,iV below] w (fun e w'=>e = .returned (iV (kJ' B known self l below)) /\ Kp [] w w'):=by
 refine oF Tryz.func77 ?_;have hvv:=hv;obtain ⟨v1,v2,v3,rfl,hO,hE,hP,hk⟩:=hv;have hll:=hl;obtain ⟨al,cl,rfl,hl1,hl2⟩:=hl;obtain ⟨RES,hRES⟩:∃ r,kJ' B known self l below = r:=⟨_,rfl⟩
 rw [hRES];unfold kJ' at hRES;refine cO (args:=[_,_,_]) 30 [.tmp 6] τok Tryz.func77 ?_;refine new fun b3 w1 hb3 h3 hs1 hk1=>?_;have h3:Bk w1.heap b3 [iV B.vars,v1,v2,iV B.nat,v3,iV (known:Int),iV self] 122:=h3;refine ab' (aI' (hS.tr hk1) l al cl hl1) ?_;rintro e w2 ⟨rfl,hk2⟩;have k02:=hk1.tr hk2;refine ac' (fun g=>?_) (fun g=>?_)
 ·have g:bz' l ≠ 0:=g
  rw [if_pos g] at hRES;subst hRES;exact ⟨rfl,k02⟩
 have g:¬ bz' l ≠ 0:=g;rw [if_neg g] at hRES;obtain ⟨hlen,hrow,hok⟩:=is' (l:=l) (by omega);have hbl:=oz' (C:=C) (tr l) hok al cl (by rw [<- hrow]; exact hl1) (by rw [<- hrow]; exact hl2) (by rw [<- hrow]; exact hlen) w2 (hS.tr k02) (fun b o v h=>Nat.lt_of_lt_of_le (hold b o v h) k02.size) below hb;rw [<- hrow] at hbl;refine ab' hbl ?_;rintro e w3 ⟨rfl,hk3⟩;have k03:=k02.tr hk3;cases hbm:hQ' (tr l) below with
 | false =>
  rw [if_pos hbm] at hRES;subst hRES;exact ⟨rfl,k03⟩
 | true =>
  rw [if_neg (by rw [hbm]; simp)] at hRES;have hpl:∀ m ∈ l,ah' m = true:=fun m hm=>kH' (tr l) .tm hok.1 m (by rw [<- hrow]; exact hm);refine lp τok (σ:=Nat) (fun i=>[(3,pt b3),(19,.slice al l.length cl),(20,iV (l.length:Int)),(21,iV (i:Int))])
   (fun i w'=>i <= l.length /\ Kp [] w3 w' /\ (if (l.drop i).any (fun m=>!bj' B known self m) = true then (8:Int) else 0) = RES) (fun i=>l.length - i) 0 rfl
   ⟨rfl,rfl,rfl,rfl,trivial⟩ ⟨Nat.zero_le _,Kp.refl _ _,hRES⟩ ?_
  clear hRES
  rintro i w4 ⟨hi,hk4,hres⟩;have k04:=k03.tr hk4;have h34:=h3.kp ((hk2.tr hk3).tr hk4) (by simp);refine ac' (fun g2=>?_) (fun g2=>?_)
  ·have g2:(i:Int) < (l.length:Int):=g2
   obtain ⟨m,hm,hd⟩:=af' (l:=l) (k:=i) (by omega);rw [hd] at hres;obtain ⟨b,o,rfl,hcell⟩:=hl1.at (i:=i) (by omega)
   obtain ⟨cs,⟨rfl,hi1,hi2,hi3⟩,hcc⟩:=hcell i m hm;refine ix i rfl (by omega) ?_;refine ldN [iV m.op,iV m.a,iV m.b] rfl (fun j u hj=>hS.tr k04 _ _ _ (hcc j u hj)) ?_;refine new fun b9 w5 hb9 h9 hs5 hk5=>?_;refine stN (vs:=[iV m.op,iV m.a,iV m.b]) h9 rfl (by simp [Value.oneCell']) fun w6 h9 hs6 hk6=>?_;have k46:=hk5.newSt hb9 hk6;have h9:Bk w6.heap b9 [iV m.op,iV m.a,iV m.b] 43:=h9;have h36:=h34.kp k46 (by simp);refine ldN [iV B.vars,v1,v2,iV B.nat,v3,iV (known:Int),iV self] rfl (bZ h36) ?_;refine ldN [iV m.op,iV m.a,iV m.b] rfl (bZ h9) ?_;refine ab' (tM' (hS.tr (k04.tr k46)) hvv (hpl m (List.mem_of_getElem? hm)) ⟨hi1,hi2,hi3⟩) ?_;rintro e w7 ⟨rfl,hk7⟩;cases hn:bj' B known self m with
   | false =>
    rw [if_pos (by rw [List.any_cons,hn]; rfl)] at hres;subst hres;exact ⟨rfl,k04.tr (k46.tr hk7)⟩
   | true =>
    rw [List.any_cons,hn,Bool.not_true,Bool.false_or] at hres;refine i6 ?_;exact ⟨i + 1,by omega,rfl,⟨rfl,rfl,rfl,rfl,trivial⟩,by omega,(hk4.tr k46).tr hk7,hres⟩
  ·have g2:¬ (i:Int) < (l.length:Int):=g2
   rw [List.drop_eq_nil_of_le (by omega)] at hres;simp only [List.any_nil,Bool.false_eq_true,if_false] at hres;subst hres;exact ⟨rfl,k04⟩
theorem dJ' (hS:Sub C w) (hold:∀ b o v,C b o v -> b < w.heap.size) {v:Value} (hv:LkP C B known self v) {ls:List (List Nd)} {vl:Value} (hl:SV (rSk rNd) C ls vl) (hll:ls.length <= 1000000) {below step:Int} (hb:0 <= below /\ below <= 1000000000) (hs0:0 <= step /\ step <= 1) :
  CC 115 #[v,vl,iV below,iV step] w (fun e w'=>e = .returned (iV (cf' B known self step ls below)) /\ Kp [] w w'):=by
 refine oF Tryz.func115 ?_;have hvv:=hv;obtain ⟨v1,v2,v3,rfl,hO,hE,hP,hk⟩:=hv;obtain ⟨al,cl,rfl,hl1,hl2⟩:=hl;obtain ⟨RES,hRES⟩:∃ r,cf' B known self step ls below = r:=⟨_,rfl⟩
 rw [hRES];refine cO (args:=[_,_,_,_]) 29 [.tmp 8] τok Tryz.func115 ?_;refine new fun b4 w1 hb4 h4 hs1 hk1=>?_;have h4:Bk w1.heap b4 [iV B.vars,v1,v2,iV B.nat,v3,iV (known:Int),iV self] 122:=h4;refine lp τok (σ:=Nat × Int) (fun q=>[(2,iV q.2),(3,iV step),(4,pt b4),(12,.slice al ls.length cl),(13,iV (ls.length:Int)),(14,iV (q.1:Int))])
  (fun q w'=>q.1 <= ls.length /\ below <= q.2 /\ q.2 <= below + q.1 /\ Kp [] w1 w' /\ cf' B known self step (ls.drop q.1) q.2 = RES) (fun q=>ls.length - q.1) (0,below) rfl
  ⟨rfl,rfl,rfl,rfl,rfl,rfl,trivial⟩ ⟨Nat.zero_le _,Int.le_refl _,by simp,Kp.refl _ _,by simpa using hRES⟩ ?_
 clear hRES
 rintro ⟨i,x⟩ w2 ⟨hi,hx1,hx2,hk2,hres⟩;simp only at hi hx1 hx2 hres;have k02:=hk1.tr hk2;have h42:=h4.kp hk2 (by simp);refine ac' (fun g2=>?_) (fun g2=>?_)
 ·have g2:(i:Int) < (ls.length:Int):=g2
  obtain ⟨l,hl,hd⟩:=af' (l:=ls) (k:=i) (by omega);rw [hd] at hres;simp only [cf'] at hres;obtain ⟨b,o,rfl,a',c',hcell,hcap,hsl⟩:=hl1.sk hl;refine ix i rfl (by omega) ?_;refine ld (Cl.cell (hS.tr k02 _ _ _ hcell)) ?_;refine ldN [iV B.vars,v1,v2,iV B.nat,v3,iV (known:Int),iV self] rfl (bZ h42) ?_;refine ab' (jx' (hS.tr k02) (fun b o v h=>Nat.lt_of_lt_of_le (hold b o v h) k02.size) hvv ⟨a',c',rfl,hsl,hcap⟩ (by constructor <;> omega)) ?_;rintro e w3 ⟨rfl,hk3⟩;refine ac' (fun g=>?_) (fun g=>?_)
  ·have g:kJ' B known self l x ≠ 0:=g
   rw [if_pos g] at hres;subst hres;exact ⟨rfl,k02.tr hk3⟩
  have g:¬ kJ' B known self l x ≠ 0:=g;rw [if_neg g] at hres;refine i6 ?_;refine i6 ?_;exact ⟨(i + 1,x + step),by simp only; omega,rfl,⟨rfl,rfl,rfl,rfl,rfl,rfl,trivial⟩,by show i + 1 <= _; omega,by simp only; omega,by simp only; omega,hk2.tr hk3,hres⟩
 ·have g2:¬ (i:Int) < (ls.length:Int):=g2
  rw [List.drop_eq_nil_of_le (by omega)] at hres;simp only [cf'] at hres;subst hres;exact ⟨rfl,k02⟩
theorem pU' (hS:Sub C w) {l:List Nd} {vl:Value} (hl:SV rNd C l vl) (h0:0 < l.length) :
  CC 113 #[vl] w (fun e w'=>e = .returned (iV (et' l)) /\ Kp [] w w'):=by
 refine oF Tryz.func113 ?_;obtain ⟨al,cl,rfl,hl1,hl2⟩:=hl;obtain ⟨m,hm,_⟩:=af' (l:=l) (k:=0) h0;obtain ⟨b,o,rfl,hcell⟩:=hl1.at (i:=0) h0;obtain ⟨cs,⟨rfl,hi1,hi2,hi3⟩,hcc⟩:=hcell 0 m hm;have hm0:l.getD 0 ⟨0,0,0⟩ = m:=by rw [List.getD_eq_getElem?_getD,hm]; rfl
 refine cO (args:=[_]) 8 [.tmp 2] τok Tryz.func113 ?_;refine ix 0 rfl h0 ?_;refine ld (Cl.cell (hS _ _ _ (hcc 0 _ rfl))) ?_;unfold et';rw [hm0];refine ac' (fun g=>?_) (fun g=>?_)
 ·have g:m.op ≠ 2:=g
  rw [if_pos g];exact ⟨rfl,Kp.refl _ _⟩
 ·have g:¬ m.op ≠ 2:=g
  rw [if_neg g];exact ⟨rfl,Kp.refl _ _⟩
end
end Go.Proofs.YtmpgcpemnjbgjaaGreat
