import Derived.Test.YtbnhfnfgabkelaaGreatMd19
set_option linter.unusedVariables false
set_option linter.unusedSimpArgs false
set_option maxRecDepth 100000
namespace Go.Proofs.YtbnhfnfgabkelaaGreat
open Go.Wx Cd Tm Lv
def CxP (P:Nd -> Prop) (c:Ctx):Prop:=∀ (i:Nat) q,c[i]? = some q -> Ft P (i:Int) q.1 /\ ∀ x,q.2 = some x -> Ft P (i:Int) x
structure sH' (B B':BoT) (P:Nd -> Prop) (a:Int):Prop where
 sort:(entD B' a).sort = (entD B a).sort
 params:(entD B' a).params = (entD B a).params
 indices:(entD B' a).indices = (entD B a).indices
 fs:Ft P 0 (tr (entD B a).sort)
 fp:∀ (k:Nat) y,(psM B a)[k]? = some y -> Ft P (k:Int) y
 fi:∀ (k:Nat) y,(qiM B a)[k]? = some y -> Ft P (((psM B a).length + k:Nat):Int) y
structure Agr (B B':BoT) (P:Nd -> Prop):Prop where
 qk:Qk P
 vars:B'.vars = B.vars
 ords:B'.orders = B.orders
 sub:∀ m,P m -> QB B m
 lo:∀ m,m.op ≠ 8 -> m.op ≠ 9 -> m.op ≠ 10 -> m.op ≠ 11 -> QB B m -> P m
 d8:∀ m,P m -> m.op = 8 -> entD B' m.a = entD B m.a /\ Ft P 0 (tr (entD B m.a).type) /\ Ft P 0 (tr (entD B m.a).body)
 d9:∀ m,P m -> m.op = 9 -> 0 <= m.a -> sH' B B' P m.a
 d10:∀ m,P m -> m.op = 10 \/ m.op = 11 -> entD B' m.a = entD B m.a /\ P ⟨9,m.a,0⟩ /\ ∀ k:Nat,k < (entD B m.a).ctors.length -> P ⟨10,m.a,(k:Int)⟩ /\ (∀ (i:Nat) y,(agM B m.a k)[i]? = some y -> Ft P (((psM B m.a).length + i:Nat):Int) y) /\ ∀ y ∈ ouM B m.a k,Ft P (((psM B m.a).length + (agM B m.a k).length:Nat):Int) y
section
variable {B B':BoT} {P:Nd -> Prop} {cx:Ctx} {x:Tr}
theorem Ft.nodeP {N:Int} (h:Ft P N x):P x.n:=by
 obtain ⟨n,ks⟩:=x;exact h.node
theorem uP' (hA:Agr B B' P) {N:Int} {h s:Tr} (hh:Ft P N h) (g:h.n.op = 11):gu' B' h.n s = gu' B h.n s:=by
 unfold gu' nPar ctD;rw [(hA.d10 _ hh.nodeP (.inr g)).1]
theorem sI' (hA:Agr B B' P) {N:Int} (hx:Ft P N x):bT' B' cx x = bT' B cx x:=by
 have hh:=hx.head;unfold bT';simp only
 by_cases g:(headT x).n.op = 11
 ·rw [uP' hA hh g]
 ·simp only [if_neg g]
def EqE {α:Type} (R:α -> Prop) (m m':Except Int α):Prop:=m' = m /\ ∀ z,m = .ok z -> R z
def Eqv {α:Type} (R:α -> Prop) (m m':Except Int (α × Nat)):Prop:=m' = m /\ ∀ z,m = .ok z -> R z.1
theorem EqE.rfl' {α:Type} {R:α -> Prop} {m:Except Int α} (h:∀ z,m = .ok z -> R z):EqE R m m:=⟨rfl,h⟩
theorem EqE.bind {α β:Type} {R:α -> Prop} {S:β -> Prop} {m m':Except Int α} {k k':α -> Except Int β} (h:EqE R m m') (hk:∀ z,m = .ok z -> R z -> EqE S (k z) (k' z)):EqE S (m.bind k) (m'.bind k'):=by
 obtain ⟨rfl,h⟩:=h;cases m' with
 | error e=>exact ⟨rfl,fun z hz=>by cases hz⟩
 | ok z=>exact hk z rfl (h z rfl)
theorem Eqv.bd {α β:Type} {R:α -> Prop} {S:β -> Prop} {m m':Except Int (α × Nat)} {k k':α -> Nat -> Except Int (β × Nat)} (h:Eqv R m m') (hk:∀ z n,m = .ok (z,n) -> R z -> Eqv S (k z n) (k' z n)):Eqv S (bdJ m k) (bdJ m' k'):=by
 obtain ⟨rfl,h⟩:=h;cases m' with
 | error e=>exact ⟨rfl,fun z hz=>by cases hz⟩
 | ok z=>exact hk z.1 z.2 rfl (h z rfl)
theorem EqE.pu {α:Type} {R:α -> Prop} {m m':Except Int α} (h:EqE R m m') (n:Nat):Eqv R (puJ m n) (puJ m' n):=by
 obtain ⟨rfl,h⟩:=h;cases m' with
 | error e=>exact ⟨rfl,fun z hz=>by cases hz⟩
 | ok z=>exact ⟨rfl,fun q hq=>by injection hq with hq; subst hq; exact h z rfl⟩
theorem Eqv.er {α:Type} {R:α -> Prop} (e:Int):Eqv (α:=α) R (.error e) (.error e):=⟨rfl,fun z hz=>by cases hz⟩
theorem Eqv.ok {α:Type} {R:α -> Prop} {z:α} {n:Nat} (h:R z):Eqv R (.ok (z,n)) (.ok (z,n)):=⟨rfl,fun q hq=>by injection hq with hq; subst hq; exact h⟩
theorem Eqv.ite {α:Type} {R:α -> Prop} {c:Prop} [Decidable c] {m m' k k':Except Int (α × Nat)} (h:c -> Eqv R m m') (hk:¬ c -> Eqv R k k'):Eqv R (if c then m else k) (if c then m' else k'):=by
 split
 ·rename_i g; exact h g
 ·rename_i g; exact hk g
theorem Eqv.wk {α:Type} {R S:α -> Prop} {m m':Except Int (α × Nat)} (h:Eqv R m m') (hs:∀ z,R z -> S z):Eqv S m m':=⟨h.1,fun z hz=>hs _ (h.2 z hz)⟩
theorem uQ' (hB:GoodB B) (hA:Agr B B' P) (hcx:CxP P cx) (hN:cx.length <= 90000) (hx:Ft P (cx.length:Int) x) (hr:bT' B cx x = true):EqE (Ft P (cx.length:Int)) (ownM B cx x) (ownM B' cx x):=by
 have hQ:=hA.qk;have hh:=hx.head;have fit:∀ {s l},Ft P (cx.length:Int) s -> (∀ y ∈ l,Ft P (cx.length:Int) y) -> EqE (Ft P (cx.length:Int)) (aL' s l) (aL' s l):=fun hs hl=>.rfl' fun z hz=>aE' hQ hs hl hz;have sub:∀ {b u},Ft P ((cx.length:Int) + 1) b -> Ft P (cx.length:Int) u -> EqE (Ft P (cx.length:Int)) (az' b u 0) (az' b u 0):=fun hb hu=>.rfl' fun z hz =>
  (aI' hQ (N:=(cx.length:Int)) (v:=0) (hb.mono (by omega)) hu (by omega) (by omega) (by omega) (by omega) hz).mono (by omega)
 unfold bT' at hr;unfold ownM;simp only at hr ⊢;split
 ·rename_i g
  rw [if_pos g] at hr;have hr:=of_decide_eq_true hr;obtain ⟨hk,hkl⟩:=bi' hh.ok (by omega) (by omega);have hkc:aw' (headT x).n = 2:=by simp [aw',g]
  have hb:=hh.kidN 1 (by rw [hk]; omega) (b:=1) (by simp [kb,bl',g]);obtain ⟨a,ha,_⟩:=af' (l:=argsT x) (k:=0) hr;have ea:(argsT x).getD 0 (varX 0) = a:=by simp [ha]
  rw [ea];exact (sub hb (hx.args a (JQ ha))).bind fun s _ hs=>fit hs fun y hy=>hx.args y (List.mem_of_mem_drop hy)
 rename_i g;rw [if_neg g] at hr;split
 ·rename_i g2
  obtain ⟨hk,hkl⟩:=bi' hh.ok (by omega) (by omega);have hkc:aw' (headT x).n = 3:=by simp [aw',g2]
  have hb:=hh.kidN 2 (by rw [hk]; omega) (b:=1) (by simp [kb,bl',g2]);have hv:=hh.kidN 1 (by rw [hk]; omega) (b:=0) (by simp [kb,bl',g2]);exact (sub hb (hv.mono (by omega))).bind fun s _ hs=>fit hs hx.args
 rename_i g2;split
 ·rename_i g3
  rw [if_neg (by omega),if_pos g3] at hr;cases hd:headT x with
  | mk n ks =>
   rw [hd] at hr hh g3;simp only [Tr.n] at hr g3 ⊢;obtain ⟨ha0,ha1,_⟩:=hh.var_lt g3;have hget:=dG' ha0 ha1;obtain ⟨v,hv⟩:=Option.isSome_iff_exists.1 hr;rw [hv];have hvF:=(hcx _ _ hget).2 v hv;have:=hvF.lift hQ (by omega) (b:=n.a + 1) (by omega) (by omega);exact fit (this.mono (by omega)) hx.args
 rename_i g3;split
 ·rename_i g4
  obtain ⟨e1,_,f2⟩:=hA.d8 _ hh.nodeP g4;rw [e1];exact fit (f2.mono (by omega)) hx.args
 rename_i g4;rw [if_neg (by omega),if_neg g3] at hr;split
 ·rename_i g5
  rw [if_pos g5] at hr;obtain ⟨hk,hkl,hb0,hb1⟩:=aN' hh.ok g5;have hs:=hh.kidN 1 (by rw [hk]; omega) (b:=0) (by simp [kb,bl',g5]);obtain ⟨f1,f2,f3,f4,f5⟩:=mi' hB (hs.wk hA.sub) hr;have hbr:=hh.kidN (2 + (headT (kidD (headT x) 1)).n.b.toNat) (by rw [hk]; omega) (b:=0) (by simp [kb,bl',g5]);have e:nPar B' (headT x).n.a = nPar B (headT x).n.a:=by
   unfold nPar;rw [(hA.d10 _ hh.nodeP (.inr g5)).1]
  rw [e];refine fit (hbr.mono (by omega)) (fun y hy=>?_);rcases List.mem_append.1 hy with hy | hy
  ·exact (hs.args y (List.mem_of_mem_drop hy)).mono (by omega)
  ·exact hx.args y hy
 ·rename_i g5
  rw [if_neg g5] at hr;split at hr
  ·rename_i g6
   exact (EqE.rfl' fun z hz=>hE' hQ hh g6 (by omega) (by omega) hz).bind fun u _ hu=>fit hu hx.args
  ·cases hr
theorem ke' (hB:GoodB B) (hA:Agr B B' P) (hcx:CxP P cx) (hN:cx.length <= 90000):∀ (g:Nat) (x:Tr) (room:Int) (n:Nat),Ft P (cx.length:Int) x -> len x <= room -> room <= 4096 -> Eqv (fun z=>Ft P (cx.length:Int) z /\ len z <= room) (whnfG B cx g x room n) (whnfG B' cx g x room n)
 | 0,x,room,n,_,_,_=>Eqv.er 10
 | g + 1,x,room,n,hx,hl,hr=>by
  have pre:Eqv (fun z=>Ft P (cx.length:Int) z /\ len z <= room) (preW (whnfG B cx g) x room n) (preW (whnfG B' cx g) x room n):=by
   unfold preW;cases hp:eM' x with
   | none=>exact Eqv.ok ⟨hx,hl⟩
   | some p =>
    simp only;obtain ⟨hpF,hpl⟩:=mf' hx hp;obtain ⟨h1,h2⟩:=ke' hB hA hcx hN g p (room - len x + len p) n hpF (by omega) (by unfold len at *; omega);rw [h1];cases hw:whnfG B cx g p (room - len x + len p) n with
    | error e=>exact Eqv.er e
    | ok q =>
     obtain ⟨i1,i2⟩:=h2 q hw;have hwl:=jS' (p:=q.1) hx hp;have hwF:=(hG' (C:=fun _ _ _=>True) hA.qk hx i1 hp (by unfold len at *; omega)).1;exact Eqv.ok ⟨hwF,by unfold len at *; omega⟩
  simp only [whnfG];obtain ⟨p1,p2⟩:=pre;rw [p1];cases hp:preW (whnfG B cx g) x room n with
  | error e=>exact Eqv.er e
  | ok q =>
   obtain ⟨i1,i2⟩:=p2 q hp;simp only;unfold fx';rw [sI' hA i1];refine Eqv.ite (fun hrd=>Eqv.ite (fun _=>Eqv.er 10) fun _=>?_) fun _=>⟨rfl,fun z hz=>by injection hz with hz; subst hz; exact ⟨i1,i2⟩⟩
   obtain ⟨o1,o2⟩:=uQ' hB hA hcx hN i1 hrd;rw [o1];cases ho:ownM B cx q.1 with
   | error e=>exact Eqv.er e
   | ok y =>
    simp only;exact Eqv.ite (fun _=>Eqv.er 9) fun g3=>ke' hB hA hcx hN g y room (q.2 - 1) (o2 y ho) (by omega) hr
theorem mv' (hB:GoodB B) (hA:Agr B B' P) (hcx:CxP P cx) (hN:cx.length <= 90000) (hx:Ft P (cx.length:Int) x) (f:Int):Eqv (Ft P (cx.length:Int)) (whnfTop B cx x f) (whnfTop B' cx x f):=by
 have hl:=hx.len;exact (ke' hB hA hcx hN GW x 4096 _ hx (by unfold len; omega) (by omega)).wk fun z h=>h.1
end
section
variable {B B':BoT} {P:Nd -> Prop} {cx:Ctx} {x:Tr}
def FtS (P:Nd -> Prop) (x:Tr):Prop:=∃ N:Int,Ft P N x
theorem FtS.kids (h:FtS P x):∀ y ∈ kidsT x,FtS P y:=fun y hy=>by
 obtain ⟨N,h⟩:=h;obtain ⟨k,hk⟩:=JH hy;obtain ⟨n,ks⟩:=x;exact ⟨_,h.kid hk⟩
theorem FtS.kidD (h:FtS P x) {k:Nat} (hk:k < (kidsT x).length):FtS P (kidD x k):=h.kids _ (ej' hk)
theorem FtS.args (h:FtS P x):∀ y ∈ argsT x,FtS P y:=fun y hy=>h.elim fun N h=>⟨N,h.args y hy⟩
theorem FtS.head (h:FtS P x):FtS P (headT x):=h.elim fun N h=>⟨N,h.head⟩
def ws' (P:Nd -> Prop) (rc rc':RcF):Prop:=∀ x m,FtS P x -> rc' x m = rc x m
theorem jg' {rc rc':RcF} (h:ws' P rc rc'):∀ (n:Nat) (t:Tr) (m:List Int),FtS P t -> bj' rc' n t m = bj' rc n t m
 | 0,t,m,ht=>h t m ht
 | n + 1,t,m,ht=>by
  simp only [bj'];split
  ·rename_i g
   obtain ⟨N,hf⟩:=ht;obtain ⟨_,k0,k1⟩:=aK' hf (.inr g);rw [h _ _ ⟨_,k0⟩,jg' h n _ _ ⟨_,k1⟩]
  ·exact h t m ht
theorem ik' {rc rc':RcF} (h:ws' P rc rc') {a:Int} (he:entD B' a = entD B a) {down:Bool} {m:List Int}:∀ (l:List Tr) (k:Nat),(∀ y ∈ l,FtS P y) -> df' B' rc' a down m k l = df' B rc a down m k l
 | [],k,_=>rfl
 | t :: r,k,hl=>by
  simp only [df'];rw [he,jg' h _ _ _ (hl t (by simp)),ik' h he r (k + 1) fun y hy=>hl y (by simp [hy])]
theorem qC' {rc rc':RcF} (h:ws' P rc rc') {m m':List Int}:∀ (l:List Tr),(∀ y ∈ l,FtS P y) -> tD' rc' m m' l = tD' rc m m' l
 | [],_=>rfl
 | [t],_=>rfl
 | t :: b :: r,hl=>by
  simp only [tD'];rw [h t m (hl t (by simp)),h b m' (hl b (by simp)),qC' h r fun y hy=>hl y (by simp [hy])]
theorem tG' {α:Type} {f g:α -> Bool}:∀ (l:List α),(∀ y ∈ l,f y = g y) -> l.all f = l.all g
 | [],_=>rfl
 | y :: r,h=>by rw [List.all_cons,List.all_cons,h y (by simp),tG' r fun z hz=>h z (by simp [hz])]
theorem qD' (hA:Agr B B' P) {pl:List Int}:∀ g,ws' P (bR' B pl g) (bR' B' pl g)
 | 0,x,m,_=>rfl
 | g + 1,x,m,hx=>by
  have ih:=qD' hA (pl:=pl) g;simp only [bR'];have hh:=hx.head;obtain ⟨N,hf⟩:=id hh
  congr 1
  ·exact tG' _ fun y hy=>ih y m (hx.args y hy)
  split
  ·rfl
  split
  ·rename_i g11
   obtain ⟨l1,l2,l3,kf⟩:=eD' hf g11;unfold hU';rw [ih _ _ (hh.kidD (by omega)),ih _ _ (hh.kidD (by omega)),ik' ih (hA.d10 _ hf.nodeP (.inr g11)).1 _ _ fun y hy=>hh.kids y (List.mem_of_mem_drop hy)]
  split
  ·rename_i g4
   obtain ⟨_,k0,k1⟩:=aK' hf g4;rw [ih _ _ ⟨_,k0⟩,ih _ _ ⟨_,k1⟩]
  split
  ·rename_i g7
   obtain ⟨_,k0,k1,k2⟩:=gH' hf g7;rw [ih _ _ ⟨_,k0⟩,ih _ _ ⟨_,k1⟩,ih _ _ ⟨_,k2⟩]
  split
  ·exact qC' ih _ hh.kids
  ·rfl
theorem nF' {rc rc':RcF} (h:ws' P rc rc'):∀ (n:Nat) (t:Tr) (m:List Int),FtS P t -> gv' rc' n t m = gv' rc n t m
 | 0,t,m,ht=>h t m ht
 | n + 1,t,m,ht=>by
  simp only [gv']
  by_cases g:t.n.op = 5
  ·obtain ⟨N,hf⟩:=ht
   obtain ⟨_,k0,k1⟩:=aK' hf (.inr g);rw [h _ _ ⟨_,k0⟩,nF' h n _ _ ⟨_,k1⟩]
  ·rw [decide_eq_false g]
   rfl
theorem sJ' (hA:Agr B B' P) {N:Int} (hx:Ft P N x) (h12:x.n.op = 12):eR' B' x = eR' B x:=by
 have go:∀ (k i:Nat),i + k <= x.n.b.toNat -> ee' B' x k i = ee' B x k i:=fun k=>by
  induction k with
  | zero=>intro i _; rfl
  | succ k ih =>
   intro i hi;simp only [ee'];obtain ⟨_,_,_,k1⟩:=bu' hx h12 (i:=i) (by omega);have:op' B' x i = op' B x i:=by
    unfold op';rw [nF' (qD' hA 4096) _ _ _ ⟨_,k1⟩]
   rw [this,ih (i + 1) (by omega)]
 exact go _ 0 (by omega)
theorem CxP.app {c m:Ctx} (h:CxP P c) (hm:∀ (i:Nat) q,m[i]? = some q -> Ft P ((c.length + i:Nat):Int) q.1 /\ ∀ x,q.2 = some x -> Ft P ((c.length + i:Nat):Int) x):CxP P (c ++ m):=fun i q hq=>by
 by_cases hi:i < c.length
 ·rw [List.getElem?_append_left hi] at hq
  exact h i q hq
 ·rw [List.getElem?_append_right (by omega)] at hq
  have:=hm _ q hq
  rwa [show c.length + (i - c.length) = i by omega] at this
theorem CxP.snoc {c:Ctx} (h:CxP P c) {t:Tr} {v:Option Tr} (ht:Ft P (c.length:Int) t) (hv:∀ x,v = some x -> Ft P (c.length:Int) x):CxP P (c ++ [(t,v)]):=h.app fun i q hq=>by
 have hi:=ai' hq;obtain rfl:i = 0:=by simp at hi; omega
 simp only [List.getElem?_cons_zero,Option.some.injEq] at hq;subst hq;exact ⟨ht,hv⟩
theorem jh' (hQ:Qk P) {f:Tr} (h:CxP P cx) (hN:cx.length <= 90000) (hf:Ft P (cx.length:Int) f) (h12:f.n.op = 12):CxP P (cx ++ aQ' f):=by
 have hl:=aW' hf.ok h12;refine h.app fun i q hq=>?_;have hi:=ai' hq;rw [bg'] at hi;rw [eB' hi] at hq;obtain rfl:=JB hq;obtain ⟨_,_,h3,_⟩:=bu' hf h12 hi;have:=h3.lift hQ (b:=(i:Int)) (by omega) (by omega) (by omega);exact ⟨by simpa using this,fun x hx=>by cases hx⟩
def wD' (P:Nd -> Prop) (rc rc':RcC):Prop:=∀ cx x y u n,CxP P cx -> cx.length <= 260 -> Ft P (cx.length:Int) x -> Ft P (cx.length:Int) y -> rc' cx x y u n = rc cx x y u n
theorem fV' {m m':Except Int (Bool × Nat)} {k k':Nat -> Except Int (Bool × Nat)} (h:m' = m) (hk:∀ n,k' n = k n):fe' m' k' = fe' m k:=by
 subst h;unfold fe';split
 ·rfl
 ·rw [hk]
theorem mw' {rc rc':RcC} (h:wD' P rc rc') (hcx:CxP P cx) (hl:cx.length <= 260):∀ (xs ys:List Tr) (n:Nat),(∀ y ∈ xs,Ft P (cx.length:Int) y) -> (∀ y ∈ ys,Ft P (cx.length:Int) y) -> ix' rc' cx xs ys n = ix' rc cx xs ys n
 | [],_,_,_,_=>by simp [ix']
 | _ :: _,[],_,_,_=>by simp [ix']
 | x :: r,y :: s,n,hx,hy=>by
  simp only [ix'];exact fV' (h _ _ _ _ _ hcx hl (hx x (by simp)) (hy y (by simp))) fun n=>mw' h hcx hl r s n (fun z hz=>hx z (by simp [hz])) fun z hz=>hy z (by simp [hz])
def Par (P:Nd -> Prop) (a b:Int) (l:List Tr):Prop:=∀ (i:Nat) y,l[i]? = some y -> Ft P (if i % 2 = 0 then a else b) y
theorem Par.two {a b:Int} {x y:Tr} {r:List Tr} (h:Par P a b (x :: y :: r)):Ft P a x /\ Ft P b y /\ Par P a b r:=by
 refine ⟨h 0 x rfl,h 1 y rfl,fun i z hz=>?_⟩;have:=h (i + 2) z hz
 rwa [show (i + 2) % 2 = i % 2 by omega] at this
theorem qE' {N:Int} {f:Tr} (h:Ft P N f) (h12:f.n.op = 12):Par P N (N + f.n.b) (kidsT f):=fun i y hy=>by
 have hk:=cG' h.ok h12;have hl:=aW' h.ok h12;have hi:=ai' hy;have:=bu' h h12 (i:=i / 2) (by omega)
 by_cases e:i % 2 = 0
 ·rw [if_pos e]
  rw [show 2 * (i / 2) = i by omega] at this;rw [this.1] at hy;obtain rfl:=JB hy;exact this.2.2.1
 ·rw [if_neg e]
  rw [show 2 * (i / 2) + 1 = i by omega] at this;rw [this.2.1] at hy;obtain rfl:=JB hy;exact this.2.2.2
theorem qF' {rc rc':RcC} (h:wD' P rc rc') {cx':Ctx} (hcx:CxP P cx) (hl:cx.length <= 260) (hcx':CxP P cx') (hl':cx'.length <= 260):∀ (xs ys:List Tr) (n:Nat),Par P (cx.length:Int) (cx'.length:Int) xs -> Par P (cx.length:Int) (cx'.length:Int) ys -> fR' rc' cx cx' xs ys n = fR' rc cx cx' xs ys n
 | [],_,_,_,_=>by simp [fR']
 | [_],_,_,_,_=>by simp [fR']
 | _ :: _ :: _,[],_,_,_=>by simp [fR']
 | _ :: _ :: _,[_],_,_,_=>by simp [fR']
 | x :: a :: r,y :: b :: s,n,hx,hy=>by
  simp only [fR'];obtain ⟨x1,x2,x3⟩:=hx.two;obtain ⟨y1,y2,y3⟩:=hy.two;exact fV' (h _ _ _ _ _ hcx hl x1 y1) fun n=>fV' (h _ _ _ _ _ hcx' hl' x2 y2) fun n=>qF' h hcx hl hcx' hl' r s n x3 y3
theorem sK' (hA:Agr B B' P) {rc rc':RcC} (h:wD' P rc rc') (hcx:CxP P cx) (hl:cx.length <= 256) {f g:Tr} (hf:Ft P (cx.length:Int) f) (hg:Ft P (cx.length:Int) g) (hop:f.n.op = g.n.op) (h7:f.n.op ≠ 7) (u:Bool) (n:Nat):de' B' rc' cx f g u n = de' B rc cx f g u n:=by
 have e1:((cx ++ [(kidD f 0,none)]).length:Int) = (cx.length:Int) + 1:=by simp
 unfold de';split
 ·unfold kX'
  rw [hA.vars,hA.ords]
 split
 ·rename_i g4
  obtain ⟨_,f0,f1⟩:=aK' hf (.inl g4);obtain ⟨_,g0,g1⟩:=aK' hg (.inl (hop ▸ g4));exact fV' (h _ _ _ _ _ hcx (by omega) f0 g0) fun n=>h _ _ _ _ _ (hcx.snoc f0 fun x hx=>by cases hx) (by simp; omega) (by rw [e1]; exact f1) (by rw [e1]; exact g1)
 split
 ·rename_i g4
  obtain ⟨_,f0,f1⟩:=aK' hf (.inr g4);obtain ⟨_,g0,g1⟩:=aK' hg (.inr (hop ▸ g4));exact fV' (h _ _ _ _ _ hcx (by omega) f0 g0) fun n=>h _ _ _ _ _ (hcx.snoc f0 fun x hx=>by cases hx) (by simp; omega) (by rw [e1]; exact f1) (by rw [e1]; exact g1)
 split
 ·rename_i g12
  split
  ·rename_i e
   unfold gf';split
   ·have hl2:=aW' hf.ok g12
    have e2:((cx ++ aQ' f).length:Int) = (cx.length:Int) + f.n.b:=by rw [JK,bg']; omega
    refine qF' h hcx (by omega) (jh' hA.qk hcx (by omega) hf g12) (by omega) _ _ _ ?_ ?_
    ·rw [e2]; exact qE' hf g12
    ·rw [e2,e]; exact qE' hg (hop ▸ g12)
   ·rfl
  ·rfl
 split
 ·rename_i g2 g4 g5 g12 e
  exact mw' h hcx (by omega) _ _ _ (fy' hf ⟨g4,g5,h7,g12⟩) (fy' hg (by rw [<- hop]; exact ⟨g4,g5,h7,g12⟩))
 ·rfl
theorem tH' (hB:GoodB B) (hA:Agr B B' P):∀ g,wD' P (kY' B g) (kY' B' g)
 | 0,cx,x,y,u,n,_,_,_,_=>rfl
 | g + 1,cx,x,y,u,n,hcx,hl,hx,hy=>by
  have ih:=tH' hB hA g;simp only [kY'];split
  ·rfl
  split
  ·rfl
  split
  ·rfl
  rename_i g3;obtain ⟨e1,f1⟩:=mv' hB hA hcx (by omega) hx ((n - 1:Nat):Int);rw [e1];cases h1:whnfTop B cx x ((n - 1:Nat):Int) with
  | error e=>rfl
  | ok p =>
   simp only;obtain ⟨e2,f2⟩:=mv' hB hA hcx (by omega) hy (p.2:Int);rw [e2];cases h2:whnfTop B cx y (p.2:Int) with
   | error e=>rfl
   | ok q =>
    simp only;have k1:=f1 p h1;have k2:=f2 q h2;unfold jW';split
    ·rfl
    ·rename_i g4
     have h7:(headT p.1).n.op ≠ 7:=fun h7=>by
      have:=jX' _ _ _ _ _ h1;unfold bT' at this;simp [h7] at this
     exact fV' (sK' hA ih hcx (by omega) k1.head k2.head (by omega) h7 u _) fun n=>mw' ih hcx hl _ _ n k1.args k2.args
theorem nG' (hB:GoodB B) (hA:Agr B B' P) (hcx:CxP P cx) {x y:Tr} (hx:Ft P (cx.length:Int) x) (hy:Ft P (cx.length:Int) y) (u:Bool) (n:Nat):Eqv (fun _=>cx.length <= 256) (dv' B cx x y u n) (dv' B' cx x y u n):=by
 unfold dv';refine Eqv.ite (fun _=>Eqv.er 5) fun g=>⟨?_,fun _ _=>by omega⟩
 unfold hT';exact tH' hB hA GC _ _ _ _ _ hcx (by omega) hx hy
theorem el' (hB:GoodB B) (hA:Agr B B' P) (hcx:CxP P cx) (hx:Ft P (cx.length:Int) x) (n:Nat):Eqv (fun z=>cx.length <= 256 /\ Ft P (cx.length:Int) z) (eg' B cx x n) (eg' B' cx x n):=by
 unfold eg';exact Eqv.ite (fun _=>Eqv.er 5) fun g=>(mv' hB hA hcx (by omega) hx (n:Int)).wk fun z hz=>⟨by omega,hz⟩
end
theorem qG' {kind:Int} {l:List Atom}:∀ m ∈ row (sortX kind l),m.op = 2 \/ m.op = 3:=by
 have h:∀ l:List Atom,∀ m ∈ rows (l.map fun a=>(.mk ⟨3,a.var,a.add⟩ []:Tr)),m.op = 3:=by
  intro l
  induction l with
  | nil=>intro m hm; simp [rows] at hm
  | cons a l ih =>
   intro m hm;simp only [List.map_cons,rows,row,JW,JJ] at hm;rcases hm with (rfl | hm) | hm
   ·rfl
   ·simp at hm
   ·exact ih m hm
 intro m hm;simp only [sortX,row,JJ] at hm;rcases hm with rfl | hm
 ·exact .inl rfl
 ·exact .inr (h l m hm)
section
variable {B B':BoT} {P:Nd -> Prop} {cx:Ctx} {x:Tr} {rc rc':RcJ}
theorem lk' (hA:Agr B B' P) {N:Int} {kind:Int} (hk:kind = 0 \/ kind = 1) {l:List Atom} (h:qn' B.vars l):Ft P N (sortX kind l):=by
 have hf:Ft (QB B) N (sortX kind l):=jZ' hk h;exact ⟨hf.ok,hf.len,hf.bl,fun m hm=>by
  have:=qG' m hm;exact hA.lo m (by omega) (by omega) (by omega) (by omega) (hf.al m hm)⟩
theorem fC' (hB:GoodB B) {a:Int} (ha:cX' B B.ents.length a = true):(psM B a).length <= 16 /\ (qiM B a).length <= 16 /\ (entD B a).ctors.length <= 16 /\ ∀ k:Nat,k < (entD B a).ctors.length -> (agM B a k).length <= 16:=by
 obtain ⟨i,x,s,ps,qi,rfl,_,hi,hxD,hF⟩:=hB.fam ha (KJ _);obtain ⟨e1,e2,e3⟩:=hF.ps_eq hi;rw [e1,e2,hxD];refine ⟨hF.lp,hF.li,hF.lc,fun k hk=>?_⟩;obtain ⟨c,hc,_⟩:=af' (l:=x.ctors) (k:=k) hk;obtain ⟨ga,go,hC⟩:=hF.ct k c hc;rw [(hC.ag_eq hi hc).1];exact hC.la
def qH' (P:Nd -> Prop) (rc rc':RcJ):Prop:=∀ cx t n,CxP P cx -> cx.length <= 260 -> Ft P (cx.length:Int) t -> Eqv (Ft P (cx.length:Int)) (rc cx t n) (rc' cx t n)
theorem dM' (hB:GoodB B) (hA:Agr B B' P) (h:qH' P rc rc') (hcx:CxP P cx) (hl:cx.length <= 260) {t:Tr} (ht:Ft P (cx.length:Int) t) (n:Nat):Eqv (fun q=>cx.length <= 256 /\ (q.1 = 0 \/ q.1 = 1) /\ qn' B.vars q.2) (dJ' B rc cx t n) (dJ' B' rc' cx t n):=by
 unfold dJ';refine (h cx t n hcx hl ht).bd fun z n _ hz=>(el' hB hA hcx hz n).bd fun y n _ hy=>Eqv.ite (fun _=>Eqv.er 11) fun g=>Eqv.ok ⟨hy.1,?_,?_⟩
 ·exact lf' hy.2.head.ok (by omega)
 ·exact le' (hy.2.head.wk hA.sub) (by omega)
theorem em' (hB:GoodB B) (hA:Agr B B' P) (h:qH' P rc rc') (hcx:CxP P cx) (hl:cx.length <= 260) {t ty:Tr} (ht:Ft P (cx.length:Int) t) (hy:Ft P (cx.length:Int) ty) (n:Nat):Eqv (fun _=>cx.length <= 256) (ct' B rc cx t ty n) (ct' B' rc' cx t ty n):=by
 unfold ct';exact (h cx t n hcx hl ht).bd fun z n _ hz=>(nG' hB hA hcx hz hy true n).bd fun b n _ hb=>Eqv.ite (fun _=>Eqv.ok hb) fun _=>Eqv.er 13
theorem eF' {t:Tr} {v:Option Tr}:((cx ++ [(t,v)]).length:Int) = (cx.length:Int) + 1:=by simp
theorem uR' (hB:GoodB B) (hA:Agr B B' P) {a:Int} (hI:sH' B B' P a) (hf:cX' B B.ents.length a = true):EqE (Ft P 0) (qm' B a) (qm' B' a):=by
 obtain ⟨lp,li,_⟩:=fC' hB hf;have e1:psM B' a = psM B a:=by unfold psM; rw [hI.params]
 have e2:qiM B' a = qiM B a:=by unfold qiM; rw [hI.indices]
 unfold qm';rw [e1,e2,hI.sort];refine EqE.bind (R:=Ft P ((psM B a).length:Int)) (.rfl' fun z hz=>bb' hA.qk (hI.fs.mono (by omega)) (fun k y hy=>(hI.fi k y hy).mono (by omega)) hz) fun z _ hz=>.rfl' fun u hu=>?_;exact bb' hA.qk (N:=0) (hz.mono (by omega)) (fun k y hy=>(hI.fp k y hy).mono (by omega)) hu
structure FamA (B B':BoT) (P:Nd -> Prop) (a:Int):Prop where
 fam:cX' B B.ents.length a = true
 ent:entD B' a = entD B a
 p9:P ⟨9,a,0⟩
 ind:sH' B B' P a
 ct:∀ k:Nat,k < (entD B a).ctors.length -> P ⟨10,a,(k:Int)⟩ /\ (∀ (i:Nat) y,(agM B a k)[i]? = some y -> Ft P (((psM B a).length + i:Nat):Int) y) /\ ∀ y ∈ ouM B a k,Ft P (((psM B a).length + (agM B a k).length:Nat):Int) y
theorem Agr.fam (hA:Agr B B' P) {m:Nd} (hm:P m) (h:m.op = 10 \/ m.op = 11) (h0:0 <= m.a):FamA B B' P m.a:=by
 obtain ⟨e,p9,ct⟩:=hA.d10 m hm h;exact ⟨kR' (hA.sub m hm) h,e,p9,hA.d9 ⟨9,m.a,0⟩ p9 rfl h0,ct⟩
theorem FamA.eqs {a:Int} (h:FamA B B' P a):psM B' a = psM B a /\ qiM B' a = qiM B a /\ (∀ b,agM B' a b = agM B a b) /\ ∀ b,ouM B' a b = ouM B a b:=by
 unfold psM qiM agM ouM ctD;rw [h.ent];exact ⟨rfl,rfl,fun _=>rfl,fun _=>rfl⟩
theorem sL' (hB:GoodB B) (hA:Agr B B' P) {a:Int} (hF:FamA B B' P a) (k:Nat) (hk:k < (entD B a).ctors.length):EqE (Ft P 0) (hZ' B a k) (hZ' B' a k):=by
 obtain ⟨lp,li,lc,la⟩:=fC' hB hF.fam;have la:=la k hk;obtain ⟨e1,e2,e3,e4⟩:=hF.eqs;obtain ⟨_,ha,ho⟩:=hF.ct k hk;have hal:=ef' hB hF.fam;unfold hZ';rw [e1,e3,e4];have h9:Ft P (((psM B a).length + (agM B a k).length:Nat):Int) (.mk ⟨9,a,0⟩ []):=gg' (by simp [ah',inR]; omega) (.inl rfl) hF.p9;refine EqE.bind (R:=Ft P (((psM B a).length + (agM B a k).length:Nat):Int)) (.rfl' fun z hz=>aE' hA.qk h9 (fun y hy=>?_) hz) fun z _ hz=>EqE.bind (R:=Ft P ((psM B a).length:Int)) (.rfl' fun u hu=>bb' hA.qk (hz.mono (by omega)) (fun i y hy=>(ha i y hy).mono (by omega)) hu) fun u _ hu=>.rfl' fun v hv=>bb' hA.qk (N:=0) (hu.mono (by omega)) (fun i y hy=>(hF.ind.fp i y hy).mono (by omega)) hv;rcases List.mem_append.1 hy with hy | hy
 ·exact (cQ' hA.qk (by omega) (by omega) y hy).mono (by omega)
 ·exact ho y hy
theorem ox' (hB:GoodB B) (hA:Agr B B' P) {N:Int} (h0:0 <= N) (hN:N <= 90000) {a:Int} (hF:FamA B B' P a) (k:Nat) (hk:k < (entD B a).ctors.length) {qs:List Tr} (hq:∀ y ∈ qs,Ft P N y) (hql:qs.length = (psM B a).length) {mo:Tr} (hmo:Ft P N mo):EqE (Ft P N) (bY' B a k qs mo) (bY' B' a k qs mo):=by
 obtain ⟨lp,li,lc,la⟩:=fC' hB hF.fam;have la:=la k hk;obtain ⟨e1,e2,e3,e4⟩:=hF.eqs;obtain ⟨p10,ha,ho⟩:=hF.ct k hk;have hal:=ef' hB hF.fam;unfold bY';rw [e1,e3,e4];have h10:Ft P (((psM B a).length + (agM B a k).length:Nat):Int) (.mk ⟨10,a,(k:Int)⟩ []):=gg' (by simp [ah',inR]; omega) (.inr rfl) p10;refine EqE.bind (R:=Ft P (((psM B a).length + (agM B a k).length:Nat):Int)) (.rfl' fun z hz=>aE' hA.qk h10 (fun y hy=>?_) hz) fun made _ hmd =>
  EqE.bind (R:=Ft P (N + ((psM B a).length + (agM B a k).length:Nat))) (.rfl' fun z hz=>aE' hA.qk (hmo.lift hA.qk (b:=(((psM B a).length + (agM B a k).length:Nat):Int)) (by omega) (by omega) (by omega)) (fun y hy=>?_) hz) fun t _ ht =>
  EqE.bind (R:=Ft P (N + (psM B a).length)) (.rfl' fun z hz=>bb' hA.qk (ht.mono (by omega)) (fun i y hy=>(ha i y hy).mono (by omega)) hz) fun u _ hu=>.rfl' fun v hv=>?_
 ·rcases List.mem_append.1 hy with hy | hy
  ·exact (cQ' hA.qk (by omega) (by omega) y hy).mono (by omega)
  ·exact (cQ' hA.qk (by omega) (by omega) y hy).mono (by omega)
 ·rcases List.mem_append.1 hy with hy | hy
  ·exact (ho y hy).mono (by omega)
  ·obtain rfl:y = made:=by simpa using hy
   exact hmd.mono (by omega)
 ·exact (ia' hA.qk (more:=0) h0 hN (by omega) (by omega) hq _ u v (by omega) (by omega) (hu.mono (by omega)) hv).mono (by omega)
theorem sM' (hB:GoodB B) (hA:Agr B B' P) {N:Int} (h0:0 <= N) (hN:N <= 90000) {a:Int} (hF:FamA B B' P a) {ps:List Tr} (hq:∀ y ∈ ps,Ft P N y) (hql:ps.length = (psM B a).length) (i:Nat) (hi:i <= (qiM B a).length):EqE (Ft P (N + i)) (ld' B a ps i (qiM B a).length) (ld' B' a ps i (qiM B a).length):=by
 obtain ⟨lp,li,lc,la⟩:=fC' hB hF.fam;obtain ⟨e1,e2,e3,e4⟩:=hF.eqs;have hal:=ef' hB hF.fam;unfold ld';rw [e2];split
 ·rename_i g
  obtain ⟨y,hy,_⟩:=af' (l:=qiM B a) (k:=i) g;have e:(qiM B a).getD i (varX 0) = y:=by rw [List.getD_eq_getElem?_getD,hy]; rfl
  rw [e];exact .rfl' fun z hz=>ia' hA.qk (more:=(i:Int)) h0 hN (by omega) (by omega) hq ps.length y z (by omega) (by omega) ((hF.ind.fi i y hy).mono (by omega)) hz
 ·rename_i g
  refine .rfl' fun z hz=>aE' hA.qk (gg' (by simp [ah',inR]; omega) (.inl rfl) hF.p9) (fun y hy=>?_) hz;rcases List.mem_append.1 hy with hy | hy
  ·obtain ⟨u,hu,rfl⟩:=List.mem_map.1 hy
   exact ((hq u hu).lift hA.qk (b:=((qiM B a).length:Int)) (by omega) (by omega) (by omega)).mono (by omega)
  ·exact (cQ' hA.qk (by omega) (by omega) y hy).mono (by omega)
theorem ll' (hB:GoodB B) (hA:Agr B B' P) {N:Int} (h0:0 <= N) (hN:N <= 260) {a:Int} (hF:FamA B B' P a) {ps:List Tr} (hq:∀ y ∈ ps,Ft P N y) (hql:ps.length = (psM B a).length):∀ (k i:Nat) (cx:Ctx) (m:Tr) (n:Nat),i + k <= (qiM B a).length + 1 -> (cx.length:Int) = N + i -> CxP P cx -> Ft P (cx.length:Int) m -> Eqv (fun _=>True) (gw' B a ps (qiM B a).length k i cx m n) (gw' B' a ps (qiM B a).length k i cx m n)
 | 0,i,cx,m,n,hi,hc,hcx,hm=>by
  simp only [gw'];exact (el' hB hA hcx hm n).bd fun f n _ hf=>Eqv.ite (fun _=>Eqv.er 16) fun _=>Eqv.ok trivial
 | k + 1,i,cx,m,n,hi,hc,hcx,hm=>by
  simp only [gw'];refine (el' hB hA hcx hm n).bd fun f n _ hf=>Eqv.ite (fun _=>Eqv.er 16) fun g=>((sM' hB hA h0 (by omega) hF hq hql i (by omega)).pu n).bd fun w n _ hw=>?_;obtain ⟨_,k0,k1⟩:=aK' hf.2.head (.inl (by omega));rw [<- hc] at hw;exact (nG' hB hA hcx k0 hw false n).bd fun b n _ hb=>Eqv.ite (fun _=>ll' hB hA h0 hN hF hq hql k (i + 1) _ _ n (by omega) (by rw [eF']; omega) (hcx.snoc k0 fun x hx=>by cases hx) (by rw [eF']; exact k1)) fun _=>Eqv.er 16
theorem qI' (hB:GoodB B) (hA:Agr B B' P) (h:qH' P rc rc'):∀ (l:List Tr) (cx:Ctx) (n:Nat),CxP P cx -> cx.length <= 257 -> (∀ (i:Nat) y,l[i]? = some y -> Ft P ((cx.length + i:Nat):Int) y) -> Eqv (fun _=>True) (ie' B rc cx l n) (ie' B' rc' cx l n)
 | [],cx,n,_,_,_=>Eqv.ok trivial
 | a :: r,cx,n,hcx,hl,hy=>by
  simp only [ie'];have ha:Ft P (cx.length:Int) a:=hy 0 a rfl;exact (dM' hB hA h hcx (by omega) ha n).bd fun q n _ hq=>Eqv.ite (fun _=>Eqv.ok trivial) fun _=>qI' hB hA h r _ n (hcx.snoc ha fun x hx=>by cases hx) (by simp; omega) fun i y hi=>(hy (i + 1) y hi).mono (by simp; omega)
theorem oy' (hB:GoodB B) (hA:Agr B B' P) (h:qH' P rc rc') {a:Int} (hF:FamA B B' P a) (n:Nat):Eqv (fun _=>True) (cC' B rc a n) (cC' B' rc' a n):=by
 obtain ⟨lp,li,lc,la⟩:=fC' hB hF.fam;obtain ⟨e1,e2,e3,e4⟩:=hF.eqs;unfold cC';rw [hF.ent,e1,e3];refine Eqv.ite (fun _=>Eqv.ok trivial) fun g0=>Eqv.ite (fun _=>Eqv.ok trivial) fun g1=>?_;obtain ⟨_,ha,_⟩:=hF.ct 0 (by omega);refine qI' hB hA h _ _ n (fun i q hq=>?_) (by rw [dL']; omega) fun i y hy=>?_
 ·unfold fU' at hq
  rw [JX] at hq;cases hp:(psM B a)[i]? with
  | none=>rw [hp] at hq; cases hq
  | some p =>
   rw [hp] at hq;obtain rfl:=JB hq;exact ⟨hF.ind.fp i p hp,fun x hx=>by cases hx⟩
 ·rw [dL']
  exact ha i y hy
theorem gl' (hB:GoodB B) (hA:Agr B B' P) (h:qH' P rc rc') (hcx:CxP P cx) (hl:cx.length <= 260) {a:Int} (hF:FamA B B' P a) {qs:List Tr} (hq:∀ y ∈ qs,Ft P (cx.length:Int) y) (hql:qs.length = (psM B a).length) {mo:Tr} (hmo:Ft P (cx.length:Int) mo):∀ (l:List Tr) (k n:Nat),k + l.length <= (entD B a).ctors.length -> (∀ y ∈ l,Ft P (cx.length:Int) y) -> Eqv (fun _=>True) (aD' B rc cx a qs mo k l n) (aD' B' rc' cx a qs mo k l n)
 | [],k,n,_,_=>Eqv.ok trivial
 | b :: r,k,n,hk,hy=>by
  simp only [aD'];simp only [JV] at hk;exact ((ox' hB hA (by omega) (by omega) hF k (by omega) hq hql hmo).pu n).bd fun ty n _ hty=>(em' hB hA h hcx hl (hy b (by simp)) hty n).bd fun _ n _ _=>gl' hB hA h hcx hl hF hq hql hmo r (k + 1) n (by omega) fun y hz=>hy y (by simp [hz])
theorem oz' (hB:GoodB B) (hA:Agr B B' P) (h:qH' P rc rc') (hcx:CxP P cx) (hl:cx.length <= 260) {t:Tr} (ht:Ft P (cx.length:Int) t) (h11:t.n.op = 11) (n:Nat):Eqv (Ft P (cx.length:Int)) (dT' B rc cx t.n (kidsT t) n) (dT' B' rc' cx t.n (kidsT t) n):=by
 obtain ⟨l1,l2,l3,kf⟩:=eD' ht h11;have hF:=hA.fam ht.nodeP (.inr h11) (aU' ht.ok.pl).2.2.1;obtain ⟨e1,e2,e3,e4⟩:=hF.eqs;have k0:Ft P (cx.length:Int) ((kidsT t).getD 0 (varX 0)):=kf _ (ej' (by omega));have k1:Ft P (cx.length:Int) ((kidsT t).getD 1 (varX 0)):=kf _ (ej' (by omega));unfold dT' id';simp only;rw [e1,e2,hF.ent];refine (h cx _ n hcx hl k1).bd fun ty n _ hty=>(el' hB hA hcx hty n).bd fun z n _ hz=>Eqv.ite (fun _=>Eqv.er 14) fun g1=>Eqv.ite (fun _=>Eqv.er 15) fun g2=>(h cx _ n hcx hl k0).bd fun mt n _ hmt=>?_;have hps:∀ y ∈ (argsT z).take (psM B t.n.a).length,Ft P (cx.length:Int) y:=fun y hy=>hz.2.args y (List.mem_of_mem_take hy);have hpl:((argsT z).take (psM B t.n.a).length).length = (psM B t.n.a).length:=by rw [List.length_take]; omega
 refine (ll' hB hA (N:=(cx.length:Int)) (by omega) (by omega) hF hps hpl _ 0 cx mt n (by omega) (by omega) hcx hmt).bd fun kind n _ _=>Eqv.bd (R:=fun _=>True) (Eqv.ite (fun _=>oy' hB hA h hF n) fun _=>Eqv.ok trivial) fun s n _ _=>Eqv.ite (fun _=>Eqv.er 17) fun _ =>
  (gl' hB hA h hcx hl hF hps hpl k0 _ 0 n (by omega) fun y hy=>kf y (List.mem_of_mem_drop hy)).bd fun _ n _ _=>(EqE.rfl' fun v hv=>aE' hA.qk k0 (fun y hy=>?_) hv).pu n
 rcases List.mem_append.1 hy with hy | hy
 ·exact hz.2.args _ (List.mem_of_mem_drop hy)
 ·simp only [List.mem_singleton] at hy
  subst hy;exact k1
theorem ji' (hB:GoodB B) (hA:Agr B B' P) (h:qH' P rc rc') (hcx:CxP P cx) (hl:cx.length <= 260) {t:Tr} (ht:Ft P (cx.length:Int) t) (h12:t.n.op = 12):∀ (k i n:Nat),i + k <= t.n.b.toNat -> Eqv (fun _=>0 < k -> cx.length <= 256) (eh' B rc cx t k i n) (eh' B' rc' cx t k i n)
 | 0,i,n,_=>Eqv.ok fun h=>absurd h (by omega)
 | k + 1,i,n,hi=>by
  simp only [eh'];exact (dM' hB hA h hcx hl (bu' ht h12 (i:=i) (by omega)).2.2.1 n).bd fun _ n _ hq=>(ji' hB hA h hcx hl ht h12 k (i + 1) n (by omega)).wk fun _ _ _=>hq.1
theorem il' (hB:GoodB B) (hA:Agr B B' P) (h:qH' P rc rc') (hcx:CxP P cx) {t:Tr} {N:Int} (hN:N <= 260) (hc:(cx.length:Int) = N + t.n.b) (hl:cx.length <= 260) (ht:Ft P N t) (h12:t.n.op = 12):∀ (k i n:Nat),i + k <= t.n.b.toNat -> Eqv (fun _=>True) (cD' B rc cx t t.n.b.toNat k i n) (cD' B' rc' cx t t.n.b.toNat k i n)
 | 0,i,n,_=>Eqv.ok trivial
 | k + 1,i,n,hi=>by
  simp only [cD'];have hfl:=aW' ht.ok h12;obtain ⟨_,_,f1,f2⟩:=bu' ht h12 (i:=i) (by omega);rw [<- hc] at f2;have f3:=f1.lift hA.qk (b:=(t.n.b.toNat:Int)) (by omega) (by omega) (by omega);exact (em' hB hA h hcx hl f2 (f3.mono (by omega)) n).bd fun _ n _ _=>il' hB hA h hcx hN hc hl ht h12 k (i + 1) n (by omega)
theorem oA' (hB:GoodB B) (hA:Agr B B' P) (h:qH' P rc rc'):qH' P (dg' B rc) (dg' B' rc'):=by
 intro cx t n hcx hl ht;have h0:(0:Int) <= (cx.length:Int):=by omega
 have hpb:=aU' ht.ok.pl;unfold dg';refine Eqv.ite (fun g=>?_) fun g1=>Eqv.ite (fun g=>?_) fun g2=>Eqv.ite (fun g=>?_) fun g8=>Eqv.ite (fun g=>?_) fun g9=>Eqv.ite (fun g=>?_) fun g10=>Eqv.ite (fun g=>?_) fun g4=>Eqv.ite (fun g=>?_) fun g5=>Eqv.ite (fun g=>?_) fun g6=>Eqv.ite (fun g=>?_) fun g7=>Eqv.ite (fun g=>?_) fun g11=>?_
 ·obtain ⟨n1,ks⟩:=t
  obtain ⟨v0,v1,_⟩:=ht.var_lt g;obtain ⟨c1,c2⟩:=hcx _ _ (dG' v0 v1);exact Eqv.ok ((c1.lift hA.qk (b:=n1.a + 1) (by omega) (by omega) (by omega)).mono (by omega))
 ·unfold ot'
  refine Eqv.ite (fun _=>Eqv.er _) fun g1=>Eqv.ok (lk' hA (.inr rfl) (uI' (le' (ht.wk hA.sub) g) (by omega)))
 ·obtain ⟨e1,f1,_⟩:=hA.d8 _ ht.nodeP g
  rw [e1];exact Eqv.ok (f1.mono h0)
 ·exact ((uR' hB hA (hA.d9 _ ht.nodeP g hpb.2.2.1) (uq' (hA.sub _ ht.nodeP) g hpb.2.2.1)).pu n).wk fun z hz=>hz.mono h0
 ·have hF:=hA.fam ht.nodeP (.inl g) hpb.2.2.1
  have hc:=ns' (hA.sub _ ht.nodeP) g;obtain ⟨k,hk⟩:∃ k:Nat,t.n.b = (k:Int):=⟨t.n.b.toNat,by omega⟩
  rw [hk];exact ((sL' hB hA hF k (by omega)).pu n).wk fun z hz=>hz.mono h0
 ·unfold jpi
  obtain ⟨_,k0,k1⟩:=aK' ht (.inl g);refine (dM' hB hA h hcx hl k0 n).bd fun p n _ hp=>(dM' hB hA h (hcx.snoc k0 fun x hx=>by cases hx) (by simp; omega) (by rw [eF']; exact k1) n).bd fun q n _ hq=>Eqv.ite (fun _=>Eqv.er _) fun g1=>Eqv.ok (lk' hA hq.2.1 (qo' hp.2.2 hq.2.2 (by omega)))
 ·unfold vD'
  obtain ⟨_,k0,k1⟩:=aK' ht (.inr g);refine (dM' hB hA h hcx hl k0 n).bd fun p n _ hp=>(h _ _ n (hcx.snoc k0 fun x hx=>by cases hx) (by simp; omega) (by rw [eF']; exact k1)).bd fun z n _ hz=>(EqE.rfl' fun v hv=>bb' hA.qk (hz.mono (by simp)) (fun i y hy=>?_) hv).pu n;have hi:=ai' hy;obtain rfl:i = 0:=by simp at hi; omega
  simp only [List.getElem?_cons_zero,Option.some.injEq] at hy;subst hy;exact k0.mono (by omega)
 ·unfold vE'
  obtain ⟨_,k0,k1⟩:=ka' ht g;refine (h _ _ n hcx hl k0).bd fun ty n _ hty=>(el' hB hA hcx hty n).bd fun z n _ hz=>Eqv.ite (fun _=>Eqv.er 12) fun g1=>?_;obtain ⟨_,z0,z1⟩:=aK' hz.2.head (.inl (by omega));exact (em' hB hA h hcx hl k1 z0 n).bd fun _ n _ _=>(EqE.rfl' fun v hv=>(aI' hA.qk (v:=0) (z1.mono (by omega)) k1 h0 (by omega) (by omega) (by omega) hv).mono (by omega)).pu n
 ·unfold vF'
  obtain ⟨_,k0,k1,k2⟩:=gH' ht g;refine (dM' hB hA h hcx hl k0 n).bd fun p n _ hp=>(em' hB hA h hcx hl k1 k0 n).bd fun _ n _ _=>(h _ _ n (hcx.snoc k0 fun x hx=>by injection hx with hx; rw [<- hx]; exact k1) (by simp; omega) (by rw [eF']; exact k2)).bd fun z n _ hz=>(EqE.rfl' fun v hv=>(aI' hA.qk (v:=0) (hz.mono (by rw [eF']; omega)) k1 h0 (by omega) (by omega) (by omega) hv).mono (by omega)).pu n
 ·exact oz' hB hA h hcx hl ht g n
 ·have g12:t.n.op = 12:=by
   have:=qp' ht.ok;omega
  have hfl:=aW' ht.ok g12;unfold sw';rw [sJ' hA ht g12];refine (ji' hB hA h hcx hl ht g12 _ 0 n (by omega)).bd fun _ n _ hq=>Eqv.ite (fun _=>Eqv.er _) fun _=>?_;have hq:=hq (by omega);have e2:((cx ++ aQ' t).length:Int) = (cx.length:Int) + t.n.b:=by rw [JK,bg']; omega
  exact (il' hB hA h (jh' hA.qk hcx (by omega) ht g12) (by omega) e2 (by omega) ht g12 _ 0 n (by omega)).bd fun _ n _ _=>Eqv.ok (bu' ht g12 (i:=t.n.a.toNat) (by omega)).2.2.1
theorem eG' (hB:GoodB B) (hA:Agr B B' P):∀ g,qH' P (bL' B g) (bL' B' g)
 | 0=>fun cx t n _ _ _=>Eqv.er 10
 | g + 1=>oA' hB hA (eG' hB hA g)
theorem im' (hB:GoodB B) (hA:Agr B B' P) (hcx:CxP P cx) (hl:cx.length <= 260) {t:Tr} (ht:Ft P (cx.length:Int) t) (f:Int):Eqv (fun q=>cx.length <= 256 /\ (q.1 = 0 \/ q.1 = 1) /\ qn' B.vars q.2) (bZ' B cx t f) (bZ' B' cx t f):=dM' hB hA (eG' hB hA GJ) hcx hl ht _
theorem lm' (hB:GoodB B) (hA:Agr B B' P) (hcx:CxP P cx) (hl:cx.length <= 260) {t ty:Tr} (ht:Ft P (cx.length:Int) t) (hy:Ft P (cx.length:Int) ty) (f:Int):Eqv (fun _=>cx.length <= 256) (bO' B cx t ty f) (bO' B' cx t ty f):=em' hB hA (eG' hB hA GJ) hcx hl ht hy _
theorem mx' (hB:GoodB B) (hA:Agr B B' P) (hcx:CxP P cx) (hl:cx.length <= 260) {t:Tr} (ht:Ft P (cx.length:Int) t) (f:Int):Eqv (Ft P (cx.length:Int)) (ek' B cx t f) (ek' B' cx t f):=eG' hB hA GJ _ _ _ hcx hl ht
end
mutual
theorem io':∀ (x:Tr) (s:Md),okT cnt nx x s -> ∀ m ∈ row x,ah' m = true
 | .mk n ks,s,h,m,hm=>by
  obtain ⟨h1,h2⟩:=h;simp only [row,JJ] at hm;rcases hm with rfl | hm
  ·cases s with
   | tm=>exact (bG' h1).1
   | fn =>
    simp only [cnt] at h1;split at h1
    ·rename_i q; exact q.2
    ·cases h1
   | am =>
    simp only [cnt] at h1;split at h1
    ·rename_i q; exact q.2
    ·cases h1
  ·exact ln' ks n s 0 h2 m hm
theorem ln':∀ (l:List Tr) (n:Nd) (s:Md) (k:Nat),okL cnt nx l n s k -> ∀ m ∈ rows l,ah' m = true
 | [],n,s,k,_,m,hm=>by simp [rows] at hm
 | y :: r,n,s,k,h,m,hm=>by
  obtain ⟨h1,h2⟩:=h;simp only [rows,JW] at hm;rcases hm with hm | hm
  ·exact io' y _ h1 m hm
  ·exact ln' r n s (k + 1) h2 m hm
end
def kl' (B:BoT) (known:Nat) (self:Int) (l:List Nd) (below:Int):Int :=
 if bD' l ≠ 0 then bD' l else if iM' (tr l) below = false then 8 else if l.any (fun m=>!bh' B known self m) = true then 8 else 0
def bS' (B:BoT) (known:Nat) (self step:Int):List (List Nd) -> Int -> Int
 | [],_=>0
 | l :: r,below=>if kl' B known self l below ≠ 0 then kl' B known self l below else bS' B known self step r (below + step)
def eY' (l:List Nd):Int:=if (l.getD 0 ⟨0,0,0⟩).op ≠ 2 then 8 else 0
def bP' (B:BoT) (i:Nat) (x:EnT):List CtT -> Int
 | []=>0
 | c :: r=>if 16 < c.args.length then 5 else if c.out.length ≠ x.indices.length then 8
  else if bS' B i i 1 c.args (x.params.length:Int) ≠ 0 then bS' B i i 1 c.args (x.params.length:Int)
  else if bS' B i i 0 c.out ((x.params.length:Int) + (c.args.length:Int)) ≠ 0 then bS' B i i 0 c.out ((x.params.length:Int) + (c.args.length:Int))
  else bP' B i x r
def bx' (a b:Int):Int:=if a ≠ 0 then a else b
def bF' (B:BoT) (i:Nat) (x:EnT):Int :=
 if x.kind = 1 then (if 0 < x.type.length + x.body.length then 8 else if 16 < x.params.length \/ 16 < x.indices.length \/ 16 < x.ctors.length then 5
  else bx' (kl' B i (-1) x.sort 0) (bx' (eY' x.sort) (bx' (bS' B i (-1) 1 x.params 0) (bx' (bS' B i (-1) 1 x.indices (x.params.length:Int)) (bP' B i x x.ctors)))))
 else if x.kind = 2 then (if 0 < x.sort.length + x.params.length + x.indices.length + x.ctors.length then 8 else bS' B i (-1) 0 [x.type,x.body] 0)
 else 8
def bt' (B:BoT):List EnT -> Nat -> Int
 | [],_=>0
 | x :: r,i=>bx' (bF' B i x) (bt' B r (i + 1))
def wt' (B:BoT) (a:Int):Bool :=
 if a < 0 \/ (B.ents.length:Int) <= a \/ (entD B a).kind ≠ 1 then false
 else if (entD B a).sort.length ≠ 2 \/ ((entD B a).sort.getD 0 ⟨0,0,0⟩).a ≠ 1 \/ (entD B a).sort.getD 1 ⟨0,0,0⟩ ≠ ⟨3,0,0⟩ \/ 0 < (entD B a).params.length + (entD B a).indices.length \/ (entD B a).ctors.length ≠ 2 then false
 else decide (((entD B a).ctors.getD 0 default).args.length = 0) && (decide (((entD B a).ctors.getD 1 default).args.length = 1) && (decide ((((entD B a).ctors.getD 1 default).args.getD 0 []).length = 1) && decide ((((entD B a).ctors.getD 1 default).args.getD 0 []).getD 0 ⟨0,0,0⟩ = ⟨9,a,0⟩)))
def my' (B:BoT):List (Int × Int) -> G -> Bool
 | [],_=>true
 | p :: r,g=>if p.1 < 0 \/ (B.ents.length:Int) <= p.1 \/ (entD B p.1).kind ≠ 2 \/ p.2 < 1 \/ 3 < p.2 \/ 0 < (g p.1 (-1)).getD 0 + (g (-1) p.2).getD 0 then false else my' B r (putG (putG g p.1 (-1) 1) (-1) p.2 1)
def oB' (B:BoT):Bool:=if (B.nat ≠ -1 /\ wt' B B.nat = false) \/ (B.nat = -1 /\ 0 < B.prims.length) then false else my' B B.prims fun _ _=>none
def aJ' (B:BoT):Int:=if fw' B.vars B.orders ≠ 0 then fw' B.vars B.orders else if 64 < B.ents.length then 5 else bx' (bt' B B.ents 0) (if oB' B = true then 0 else 22)
def lp' (B:BoT) (below:Int) (t:List Nd):Int:=if aJ' B ≠ 0 then aJ' B else if below < 0 then 1 else kl' B B.ents.length (-1) t below
def nH' (B:BoT):List (List Nd × List Nd) -> Nat -> Int
 | [],_=>0
 | q :: r,i=>if lp' B i q.1 ≠ 0 then lp' B i q.1 else if q.2.length = 0 then nH' B r (i + 1) else if lp' B i q.2 ≠ 0 then lp' B i q.2 else nH' B r (i + 1)
def fitsF (B:BoT) (c:List (List Nd × List Nd)) (t:List Nd):Int :=
 if aJ' B ≠ 0 then aJ' B else if 256 < c.length then 5 else if nH' B c 0 ≠ 0 then nH' B c 0 else lp' B c.length t
theorem as' {a b:Int}:bx' a b = 0 ↔ a = 0 /\ b = 0:=by
 unfold bx';split
 ·rename_i h
  exact ⟨fun e=>absurd e h,fun e=>absurd e.1 h⟩
 ·rename_i h
  exact ⟨fun e=>⟨by omega,e⟩,fun e=>e.2⟩
theorem jj' {l:List Nd} (h:bD' l = 0):l.length <= 4096 /\ l = row (tr l) /\ Ok .tm (tr l):=by
 unfold bD' at h;split at h
 ·cases h
 ·split at h
  ·rename_i g1 g2
   obtain ⟨x,hx⟩:=Option.isSome_iff_exists.1 g2;obtain ⟨h1,h2⟩:=pf' hx;have:tr l = x:=by unfold tr; rw [hx]; rfl
   rw [this];exact ⟨by omega,h1,h2⟩
  ·cases h
section
variable {B:BoT}
theorem sN' {x:Tr} {N:Int} (h0:0 <= N):iM' x N = true ↔ Bl x N:=by
 unfold iM';rw [List.all_eq_true];constructor
 ·intro h q hq
  have:=h q hq;simp only [decide_eq_true_eq] at this;omega
 ·intro h q hq
  have:=h q hq;simp only [decide_eq_true_eq];omega
theorem mz' {known:Nat} {self:Int} {l:List Nd} {N:Int} (h0:0 <= N) (h:kl' B known self l N = 0):l = row (tr l) /\ Ft (aH' B known self) N (tr l):=by
 unfold kl' at h;split at h
 ·rename_i g; exact absurd h g
 rename_i g1;obtain ⟨h1,h2,h3⟩:=jj' (l:=l) (by omega);split at h
 ·cases h
 rename_i g2;split at h
 ·cases h
 rename_i g3;refine ⟨h2,h3,by rw [<- h2]; exact h1,(sN' h0).1 (by simpa using g2),fun m hm=>?_⟩;rw [<- h2] at hm;have:¬ (l.any fun m=>!bh' B known self m) = true:=g3;rw [List.any_eq_true] at this;unfold aH';cases hn:bh' B known self m with
 | true=>rfl
 | false=>exact absurd ⟨m,hm,by simp [hn]⟩ this
theorem eH' {known:Nat} {self step:Int} (hs:0 <= step):∀ (ls:List (List Nd)) (N:Int),0 <= N -> bS' B known self step ls N = 0 -> ls = (ls.map tr).map row /\ ∀ (k:Nat) y,(ls.map tr)[k]? = some y -> Ft (aH' B known self) (N + k * step) y
 | [],N,h0,h=>⟨rfl,fun k y hy=>by simp at hy⟩
 | l :: r,N,h0,h=>by
  simp only [bS'] at h;split at h
  ·rename_i g; exact absurd h g
  rename_i g;obtain ⟨h1,h2⟩:=mz' (l:=l) h0 (Decidable.not_not.1 g);obtain ⟨h3,h4⟩:=eH' hs r (N + step) (by omega) h;refine ⟨?_,fun k y hy=>?_⟩
  ·rw [List.map_cons,List.map_cons,<- h1,<- h3]
  ·cases k with
   | zero =>
    simp only [List.map_cons,List.getElem?_cons_zero,Option.some.injEq] at hy;subst hy;exact h2.mono (by simp)
   | succ k =>
    simp only [List.map_cons,List.getElem?_cons_succ] at hy;exact (h4 k y hy).mono (by
     have:((k + 1:Nat):Int) * step = (k:Int) * step + step:=by
      rw [Int.natCast_add,Int.add_mul]; simp
     omega)
theorem lq' {i:Nat} {x:EnT}:∀ (cs:List CtT),bP' B i x cs = 0 -> ∀ (k:Nat) c,cs[k]? = some c -> ∃ ga go,GoodC B i x.params.length x.indices.length c ga go
 | [],h,k,c,hc=>by simp at hc
 | c0 :: r,h,k,c,hc=>by
  simp only [bP'] at h;split at h
  ·cases h
  split at h
  ·cases h
  split at h
  ·rename_i g; exact absurd h g
  split at h
  ·rename_i g; exact absurd h g
  rename_i g1 g2 g3 g4;cases k with
  | succ k=>exact lq' r h k c (by simpa using hc)
  | zero =>
   simp only [List.getElem?_cons_zero,Option.some.injEq] at hc;subst hc;obtain ⟨a1,a2⟩:=eH' (step:=1) (by omega) c0.args (x.params.length:Int) (by omega) (Decidable.not_not.1 g3);obtain ⟨b1,b2⟩:=eH' (step:=0) (by omega) c0.out ((x.params.length:Int) + (c0.args.length:Int)) (by omega) (Decidable.not_not.1 g4);refine ⟨c0.args.map tr,c0.out.map tr,a1,b1,by simp; omega,by simp; omega,fun k y hy=>(a2 k y hy).mono (by omega),fun y hy=>?_⟩;obtain ⟨k,hk⟩:=JH hy;exact (b2 k y hk).mono (by simp)
theorem qJ' {i:Nat} {x:EnT} (h:bF' B i x = 0):(∃ s ps qi,GoodF B i x s ps qi) \/ ∃ ty bo,up' B i x ty bo:=by
 unfold bF' at h;split at h
 ·rename_i gk
  split at h
  ·cases h
  split at h
  ·cases h
  rename_i g1 g2;obtain ⟨h1,h⟩:=as'.1 h;obtain ⟨h2,h⟩:=as'.1 h;obtain ⟨h3,h⟩:=as'.1 h;obtain ⟨h4,h5⟩:=as'.1 h;obtain ⟨s1,s2⟩:=mz' (by omega) h1;obtain ⟨p1,p2⟩:=eH' (step:=1) (by omega) x.params 0 (by omega) h3;obtain ⟨q1,q2⟩:=eH' (step:=1) (by omega) x.indices (x.params.length:Int) (by omega) h4;refine .inl ⟨tr x.sort,x.params.map tr,x.indices.map tr,gk,s1,s2,?_,p1,q1,by simp; omega,by simp; omega,by omega,fun k y hy=>(p2 k y hy).mono (by omega),fun k y hy=>(q2 k y hy).mono (by simp),fun k c hc=>?_⟩
  ·unfold eY' at h2
   split at h2
   ·cases h2
   ·rename_i g3
    have:(x.sort.getD 0 ⟨0,0,0⟩).op = (tr x.sort).n.op:=by
     rw [s1,eb' s2.ok];obtain ⟨n,ks⟩:=tr x.sort;simp [row,Tr.n]
    omega
  ·obtain ⟨ga,go,hg⟩:=lq' x.ctors h5 k c hc
   exact ⟨ga,go,by simpa using hg⟩
 split at h
 ·rename_i gk0 gk
  split at h
  ·cases h
  obtain ⟨h1,h2⟩:=eH' (step:=0) (by omega) [x.type,x.body] 0 (by omega) h;simp only [List.map_cons,List.map_nil,List.cons.injEq] at h1;exact .inr ⟨tr x.type,tr x.body,gk,h1.1,h1.2.1,(h2 0 _ rfl).mono (by simp),(h2 1 _ rfl).mono (by simp)⟩
 ·cases h
theorem cS':∀ (l:List EnT) (i:Nat),bt' B l i = 0 -> ∀ (k:Nat) x,l[k]? = some x -> bF' B (i + k) x = 0
 | [],i,h,k,x,hx=>by simp at hx
 | y :: r,i,h,k,x,hx=>by
  obtain ⟨h1,h2⟩:=as'.1 h;cases k with
  | zero =>
   simp only [List.getElem?_cons_zero,Option.some.injEq] at hx;subst hx;exact h1
  | succ k =>
   have:=cS' r (i + 1) h2 k x (by simpa using hx)
   rwa [show i + (k + 1) = i + 1 + k by omega]
theorem jk' (h:aJ' B = 0):GoodB B:=by
 unfold aJ' at h;split at h
 ·rename_i g; exact absurd h g
 split at h
 ·cases h
 rename_i g1 g2;obtain ⟨h1,h2⟩:=as'.1 h;refine ⟨by omega,by omega,fun i x hx=>?_⟩;have:=cS' B.ents 0 h1 i x hx;rw [KW] at this;exact qJ' this
def cxR (c:List (List Nd × List Nd)):Ctx:=c.map fun q=>(tr q.1,if q.2.length = 0 then none else some (tr q.2))
end
def LkP (C:Mem) (B:BoT) (known:Nat) (self:Int) (v:Value):Prop :=
 ∃ v1 v2 v3,v = .agg #[iV B.vars,v1,v2,iV B.nat,v3,iV (known:Int),iV self] /\ SV rOr C B.orders v1 /\ SV rEn C B.ents v2 /\ SV rPr C B.prims v3 /\ known <= B.ents.length
section
variable {C:Mem} {w:World} {B:BoT} {known:Nat} {self:Int}
theorem lr' (hS:Sub C w) {v2:Value} (hE:SV rEn C B.ents v2) {a:Nat} (ha:a < B.ents.length):∃ b o c ac cc,v2 = .slice (some ⟨b,o,none⟩) B.ents.length c /\ C b (o + a * 7) (iV (entD B (a:Int)).kind) /\ C b (o + a * 7 + 4) (.slice ac (entD B (a:Int)).ctors.length cc):=by
 obtain ⟨x,hx,_⟩:=af' (l:=B.ents) (k:=a) ha;obtain ⟨b,o,c,rfl,hat⟩:=hE.at hx;obtain ⟨w1e,w2e,w3e,w4e,w5e,w6e,hcs,hki,hso,hpa,hin,hct,hty,hbo⟩:=eL' hat;obtain ⟨ac,cc,rfl,_,_⟩:=hct;rw [bJ' hx];exact ⟨b,o,c,ac,cc,rfl,hcs 0 _ rfl,hcs 4 _ rfl⟩
theorem ip' (hS:Sub C w) {v:Value} (hv:LkP C B known self v) {a:Int} (h0:0 <= a) :
  CC 116 #[v,iV a] w (fun e w'=>e = .returned (.bool (cX' B known a)) /\ Kp [] w w'):=by
 refine oF Tryz.func116 ?_;obtain ⟨v1,v2,v3,rfl,hO,hE,hP,hk⟩:=hv;refine cO (args:=[_,_]) 19 [.tmp 4] τok Tryz.func116 ?_;refine new fun b2 w1 hb2 h2 hs1 hk1=>?_;have h2:Bk w1.heap b2 [iV B.vars,v1,v2,iV B.nat,v3,iV (known:Int),iV self] 77:=h2;refine lb h2 ?_;refine ac' (fun g=>?_) (fun g=>?_)
 ·have g:a < (known:Int):=g
  obtain ⟨n,rfl⟩:∃ n:Nat,a = (n:Int):=⟨a.toNat,by omega⟩
  obtain ⟨b,o,c,ac,cc,rfl,hc1,hc2⟩:=lr' hS hE (a:=n) (by omega);refine lb h2 ?_;refine ix n rfl (by omega) ?_;refine ld (Cl.cell ((hS.tr hk1) _ _ _ hc1)) ?_;refine ⟨?_,hk1⟩;have:cX' B known (n:Int) = decide ((entD B (n:Int)).kind = 1):=by
   unfold cX';rw [decide_eq_true (by omega:(0:Int) <= (n:Int)),decide_eq_true g]
   rfl
  rw [this]
  rfl
 ·have g:¬ a < (known:Int):=g
  refine ⟨?_,hk1⟩;have:cX' B known a = false:=by
   unfold cX';rw [decide_eq_false g];simp
  rw [this]
  rfl
theorem uS' (hS:Sub C w) {v:Value} (hv:LkP C B known self v) {m:Nd} (hm:ah' m = true) (hi:I64 m.op /\ I64 m.a /\ I64 m.b) :
  CC 90 #[v,.agg #[iV m.op,iV m.a,iV m.b]] w (fun e w'=>e = .returned (.bool (bh' B known self m)) /\ Kp [] w w'):=by
 refine oF Tryz.func90 ?_;have hvv:=hv;obtain ⟨v1,v2,v3,rfl,hO,hE,hP,hk⟩:=hv;have hpb:=aU' hm;obtain ⟨RES,hRES⟩:∃ r,bh' B known self m = r:=⟨_,rfl⟩
 rw [hRES];unfold bh' at hRES;refine cO (args:=[_,_]) 72 [.tmp 4] τok Tryz.func90 ?_;refine new fun b2 w1 hb2 h2 hs1 hk1=>?_;have h2:Bk w1.heap b2 [iV B.vars,v1,v2,iV B.nat,v3,iV (known:Int),iV self] 77:=h2;refine new fun b3 w2 hb3 h3 hs2 hk2=>?_;have h3:Bk w2.heap b3 [iV m.op,iV m.a,iV m.b] 42:=h3;have h2:=h2.kp hk2 (by simp);have k02:=hk1.tr hk2;have hS2:=hS.tr k02;have hld:∀ (j:Nat) (u:Value),[iV B.vars,v1,v2,iV B.nat,v3,iV (known:Int),iV self][j]? = some u -> Cl w2.heap b2 (0 + j) u:=fun j u hj=>by rw [KW]; exact h2.cl hj
 refine lb h3 ?_;refine ac' (fun g1=>?_) (fun g1=>?_)
 ·have g1:m.op = 3:=g1
  rw [if_pos g1] at hRES;refine lb h3 ?_;refine lb h2 ?_;subst hRES;exact ⟨rfl,k02⟩
 have g1:¬ m.op = 3:=g1;rw [if_neg g1] at hRES;refine ac' (fun g2=>?_) (fun g2=>?_)
 ·have g2:m.op = 8:=g2
  rw [if_pos g2] at hRES;refine lb h3 ?_;refine lb h2 ?_;refine ac' (fun g=>?_) (fun g=>?_)
  ·have g:m.a < (known:Int):=g
   obtain ⟨n,hn⟩:∃ n:Nat,m.a = (n:Int):=⟨m.a.toNat,by omega⟩
   obtain ⟨b,o,c,ac,cc,rfl,hc1,hc2⟩:=lr' hS hE (a:=n) (by omega);refine lb h2 ?_;refine lb h3 ?_;refine ix n hn (by omega) ?_;refine ld (Cl.cell (hS2 _ _ _ hc1)) ?_;rw [decide_eq_true hpb.2.2.1,decide_eq_true g,hn] at hRES;subst hRES;exact ⟨rfl,k02⟩
  ·have g:¬ m.a < (known:Int):=g
   rw [decide_eq_false g] at hRES;simp only [Bool.false_and,Bool.and_false] at hRES;subst hRES;exact ⟨rfl,k02⟩
 have g2:¬ m.op = 8:=g2;rw [if_neg g2] at hRES;refine ac' (fun g3=>?_) (fun g3=>?_)
 ·have g3:m.op = 9:=g3
  rw [if_pos g3] at hRES;refine lb h3 ?_;refine lb h2 ?_;refine ac' (fun g=>?_) (fun g=>?_)
  ·have g:m.a = self:=g
   rw [decide_eq_true g] at hRES;simp only [Bool.true_or] at hRES;subst hRES;exact ⟨rfl,k02⟩
  ·have g:¬ m.a = self:=g
   rw [decide_eq_false g] at hRES;simp only [Bool.false_or] at hRES;refine ldN [iV B.vars,v1,v2,iV B.nat,v3,iV (known:Int),iV self] rfl hld ?_;refine lb h3 ?_;refine ab' (ip' hS2 hvv hpb.2.2.1) ?_;rintro e w3 ⟨rfl,hk3⟩;subst hRES;exact ⟨rfl,k02.tr hk3⟩
 have g3:¬ m.op = 9:=g3;rw [if_neg g3] at hRES;refine ac' (fun g4=>?_) (fun g4=>?_)
 ·have g4:m.op = 11:=g4
  rw [if_pos g4] at hRES;refine ldN [iV B.vars,v1,v2,iV B.nat,v3,iV (known:Int),iV self] rfl hld ?_;refine lb h3 ?_;refine ab' (ip' hS2 hvv hpb.2.2.1) ?_;rintro e w3 ⟨rfl,hk3⟩;subst hRES;exact ⟨rfl,k02.tr hk3⟩
 have g4:¬ m.op = 11:=g4;rw [if_neg g4] at hRES;refine ac' (fun g5=>?_) (fun g5=>?_)
 ·have g5:m.op = 10:=g5
  rw [if_pos g5] at hRES;refine aq' τok (fun z=>Kp [] w2 z) ?_;refine rV τok [0,1,2] 16 (mR 19 3) (kQd w2) ?_;refine dQ' [iV B.vars,v1,v2,iV B.nat,v3,iV (known:Int),iV self] rfl hld ?_;refine lk h3 ?_;refine nV τok 3 15 (mR 19 4) ?_;refine ab' (ip' (w:=(dr w2)) hS2 hvv hpb.2.2.1) ?_;rintro e w3 ⟨rfl,hk3⟩;have hk3:Kp [] w2 w3:=hk3.rd;refine ⟨.inl hk3,?_⟩;refine rV τok (rg 4 15) 0 (mR 19 19) hk3 ?_;cases hf:cX' B known m.a with
  | false =>
   rw [hf] at hRES;simp only [Bool.false_and] at hRES;refine dV ?_;subst hRES;exact ⟨rfl,k02.tr hk3⟩
  | true =>
   rw [hf] at hRES;simp only [Bool.true_and] at hRES;have hf':=hf;simp only [cX',Bool.and_eq_true,decide_eq_true_eq] at hf';obtain ⟨n,hn⟩:∃ n:Nat,m.a = (n:Int):=⟨m.a.toNat,by omega⟩
   obtain ⟨b,o,c,ac,cc,rfl,hc1,hc2⟩:=lr' hS hE (a:=n) (by omega);refine lk h3 ?_;refine lk h2 ?_;refine lk h3 ?_;refine ix n hn (by omega) ?_;refine ldK (hS2 _ _ _ hc2) ?_;refine dV ?_;rw [hn] at hRES;subst hRES;exact ⟨rfl,k02.tr hk3⟩
 have g5:¬ m.op = 10:=g5;rw [if_neg g5] at hRES;subst hRES;exact ⟨rfl,k02⟩
theorem nI' (hS:Sub C w) (hold:∀ b o v,C b o v -> b < w.heap.size) {v:Value} (hv:LkP C B known self v) {l:List Nd} {vl:Value} (hl:SV rNd C l vl) {below:Int} (hb:I64 below) :
  CC 54 #[v,vl,iV below] w (fun e w'=>e = .returned (iV (kl' B known self l below)) /\ Kp [] w w'):=by
 refine oF Tryz.func54 ?_;have hvv:=hv;obtain ⟨v1,v2,v3,rfl,hO,hE,hP,hk⟩:=hv;have hll:=hl;obtain ⟨al,cl,rfl,hl1,hl2⟩:=hl;obtain ⟨RES,hRES⟩:∃ r,kl' B known self l below = r:=⟨_,rfl⟩
 rw [hRES];unfold kl' at hRES;refine cO (args:=[_,_,_]) 30 [.tmp 6] τok Tryz.func54 ?_;refine new fun b3 w1 hb3 h3 hs1 hk1=>?_;have h3:Bk w1.heap b3 [iV B.vars,v1,v2,iV B.nat,v3,iV (known:Int),iV self] 77:=h3;refine ab' (aV' (hS.tr hk1) l al cl hl1) ?_;rintro e w2 ⟨rfl,hk2⟩;have k02:=hk1.tr hk2;refine ac' (fun g=>?_) (fun g=>?_)
 ·have g:bD' l ≠ 0:=g
  rw [if_pos g] at hRES;subst hRES;exact ⟨rfl,k02⟩
 have g:¬ bD' l ≠ 0:=g;rw [if_neg g] at hRES;obtain ⟨hlen,hrow,hok⟩:=jj' (l:=l) (by omega);have hbl:=pt' (C:=C) (tr l) hok al cl (by rw [<- hrow]; exact hl1) (by rw [<- hrow]; exact hl2) (by rw [<- hrow]; exact hlen) w2 (hS.tr k02) (fun b o v h=>KZ (hold b o v h) k02.size) below hb;rw [<- hrow] at hbl;refine ab' hbl ?_;rintro e w3 ⟨rfl,hk3⟩;have k03:=k02.tr hk3;cases hbm:iM' (tr l) below with
 | false =>
  rw [if_pos hbm] at hRES;subst hRES;exact ⟨rfl,k03⟩
 | true =>
  rw [if_neg (by rw [hbm]; simp)] at hRES;have hpl:∀ m ∈ l,ah' m = true:=fun m hm=>io' (tr l) .tm hok.1 m (by rw [<- hrow]; exact hm);refine lp τok (σ:=Nat) (fun i=>[(3,pt b3),(19,.slice al l.length cl),(20,iV (l.length:Int)),(21,iV (i:Int))])
   (fun i w'=>i <= l.length /\ Kp [] w3 w' /\ (if (l.drop i).any (fun m=>!bh' B known self m) = true then (8:Int) else 0) = RES) (fun i=>l.length - i) 0 rfl
   ⟨rfl,rfl,rfl,rfl,trivial⟩ ⟨KV _,Kp.refl _ _,hRES⟩ ?_
  clear hRES
  rintro i w4 ⟨hi,hk4,hres⟩;have k04:=k03.tr hk4;have h34:=h3.kp ((hk2.tr hk3).tr hk4) (by simp);refine ac' (fun g2=>?_) (fun g2=>?_)
  ·have g2:(i:Int) < (l.length:Int):=g2
   obtain ⟨m,hm,hd⟩:=af' (l:=l) (k:=i) (by omega);rw [hd] at hres;obtain ⟨b,o,rfl,hcell⟩:=hl1.at (i:=i) (by omega)
   obtain ⟨cs,⟨rfl,hi1,hi2,hi3⟩,hcc⟩:=hcell i m hm;refine ix i rfl (by omega) ?_;refine ldN [iV m.op,iV m.a,iV m.b] rfl (fun j u hj=>hS.tr k04 _ _ _ (hcc j u hj)) ?_;refine new fun b9 w5 hb9 h9 hs5 hk5=>?_;refine stN (vs:=[iV m.op,iV m.a,iV m.b]) h9 rfl (by simp [Value.oneCell']) fun w6 h9 hs6 hk6=>?_;have k46:=hk5.newSt hb9 hk6;have h9:Bk w6.heap b9 [iV m.op,iV m.a,iV m.b] 42:=h9;have h36:=h34.kp k46 (by simp);refine ldN [iV B.vars,v1,v2,iV B.nat,v3,iV (known:Int),iV self] rfl (bZ h36) ?_;refine ldN [iV m.op,iV m.a,iV m.b] rfl (bZ h9) ?_;refine ab' (uS' (hS.tr (k04.tr k46)) hvv (hpl m (JQ hm)) ⟨hi1,hi2,hi3⟩) ?_;rintro e w7 ⟨rfl,hk7⟩;cases hn:bh' B known self m with
   | false =>
    rw [if_pos (by rw [List.any_cons,hn]; rfl)] at hres;subst hres;exact ⟨rfl,k04.tr (k46.tr hk7)⟩
   | true =>
    rw [List.any_cons,hn,Bool.not_true,Bool.false_or] at hres;refine i6 ?_;exact ⟨i + 1,by omega,rfl,⟨rfl,rfl,rfl,rfl,trivial⟩,by omega,(hk4.tr k46).tr hk7,hres⟩
  ·have g2:¬ (i:Int) < (l.length:Int):=g2
   rw [JY (by omega)] at hres;simp only [List.any_nil,Bool.false_eq_true,if_false] at hres;subst hres;exact ⟨rfl,k04⟩
theorem en' (hS:Sub C w) (hold:∀ b o v,C b o v -> b < w.heap.size) {v:Value} (hv:LkP C B known self v) {ls:List (List Nd)} {vl:Value} (hl:SV (rSk rNd) C ls vl) (hll:ls.length <= 1000000) {below step:Int} (hb:0 <= below /\ below <= 1000000000) (hs0:0 <= step /\ step <= 1) :
  CC 58 #[v,vl,iV below,iV step] w (fun e w'=>e = .returned (iV (bS' B known self step ls below)) /\ Kp [] w w'):=by
 refine oF Tryz.func58 ?_;have hvv:=hv;obtain ⟨v1,v2,v3,rfl,hO,hE,hP,hk⟩:=hv;obtain ⟨al,cl,rfl,hl1,hl2⟩:=hl;obtain ⟨RES,hRES⟩:∃ r,bS' B known self step ls below = r:=⟨_,rfl⟩
 rw [hRES];refine cO (args:=[_,_,_,_]) 29 [.tmp 8] τok Tryz.func58 ?_;refine new fun b4 w1 hb4 h4 hs1 hk1=>?_;have h4:Bk w1.heap b4 [iV B.vars,v1,v2,iV B.nat,v3,iV (known:Int),iV self] 77:=h4;refine lp τok (σ:=Nat × Int) (fun q=>[(2,iV q.2),(3,iV step),(4,pt b4),(12,.slice al ls.length cl),(13,iV (ls.length:Int)),(14,iV (q.1:Int))])
  (fun q w'=>q.1 <= ls.length /\ below <= q.2 /\ q.2 <= below + q.1 /\ Kp [] w1 w' /\ bS' B known self step (ls.drop q.1) q.2 = RES) (fun q=>ls.length - q.1) (0,below) rfl
  ⟨rfl,rfl,rfl,rfl,rfl,rfl,trivial⟩ ⟨KV _,Int.le_refl _,by simp,Kp.refl _ _,by simpa using hRES⟩ ?_
 clear hRES
 rintro ⟨i,x⟩ w2 ⟨hi,hx1,hx2,hk2,hres⟩;simp only at hi hx1 hx2 hres;have k02:=hk1.tr hk2;have h42:=h4.kp hk2 (by simp);refine ac' (fun g2=>?_) (fun g2=>?_)
 ·have g2:(i:Int) < (ls.length:Int):=g2
  obtain ⟨l,hl,hd⟩:=af' (l:=ls) (k:=i) (by omega);rw [hd] at hres;simp only [bS'] at hres;obtain ⟨b,o,rfl,a',c',hcell,hcap,hsl⟩:=hl1.sk hl;refine ix i rfl (by omega) ?_;refine ld (Cl.cell (hS.tr k02 _ _ _ hcell)) ?_;refine ldN [iV B.vars,v1,v2,iV B.nat,v3,iV (known:Int),iV self] rfl (bZ h42) ?_;refine ab' (nI' (hS.tr k02) (fun b o v h=>KZ (hold b o v h) k02.size) hvv ⟨a',c',rfl,hsl,hcap⟩ (by constructor <;> omega)) ?_;rintro e w3 ⟨rfl,hk3⟩;refine ac' (fun g=>?_) (fun g=>?_)
  ·have g:kl' B known self l x ≠ 0:=g
   rw [if_pos g] at hres;subst hres;exact ⟨rfl,k02.tr hk3⟩
  have g:¬ kl' B known self l x ≠ 0:=g;rw [if_neg g] at hres;refine i6 ?_;refine i6 ?_;exact ⟨(i + 1,x + step),by simp only; omega,rfl,⟨rfl,rfl,rfl,rfl,rfl,rfl,trivial⟩,by show i + 1 <= _; omega,by simp only; omega,by simp only; omega,hk2.tr hk3,hres⟩
 ·have g2:¬ (i:Int) < (ls.length:Int):=g2
  rw [JY (by omega)] at hres;simp only [bS'] at hres;subst hres;exact ⟨rfl,k02⟩
theorem qK' (hS:Sub C w) {l:List Nd} {vl:Value} (hl:SV rNd C l vl) (h0:0 < l.length) :
  CC 56 #[vl] w (fun e w'=>e = .returned (iV (eY' l)) /\ Kp [] w w'):=by
 refine oF Tryz.func56 ?_;obtain ⟨al,cl,rfl,hl1,hl2⟩:=hl;obtain ⟨m,hm,_⟩:=af' (l:=l) (k:=0) h0;obtain ⟨b,o,rfl,hcell⟩:=hl1.at (i:=0) h0;obtain ⟨cs,⟨rfl,hi1,hi2,hi3⟩,hcc⟩:=hcell 0 m hm;have hm0:l.getD 0 ⟨0,0,0⟩ = m:=by rw [List.getD_eq_getElem?_getD,hm]; rfl
 refine cO (args:=[_]) 8 [.tmp 2] τok Tryz.func56 ?_;refine ix 0 rfl h0 ?_;refine ld (Cl.cell (hS _ _ _ (hcc 0 _ rfl))) ?_;unfold eY';rw [hm0];refine ac' (fun g=>?_) (fun g=>?_)
 ·have g:m.op ≠ 2:=g
  rw [if_pos g];exact ⟨rfl,Kp.refl _ _⟩
 ·have g:¬ m.op ≠ 2:=g
  rw [if_neg g];exact ⟨rfl,Kp.refl _ _⟩
end
end Go.Proofs.YtbnhfnfgabkelaaGreat
