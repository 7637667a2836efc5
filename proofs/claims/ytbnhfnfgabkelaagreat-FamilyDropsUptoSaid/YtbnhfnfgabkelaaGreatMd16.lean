import Derived.Test.YtbnhfnfgabkelaaGreatMd15
set_option linter.unusedVariables false
set_option linter.unusedSimpArgs false
set_option maxRecDepth 100000
namespace Go.Proofs.YtbnhfnfgabkelaaGreat
open Go.Wx Cd Tm Lv
def bdJ {α β:Type} (m:Except Int (α × Nat)) (k:α -> Nat -> Except Int (β × Nat)):Except Int (β × Nat):=match m with
 | .error e=>.error e
 | .ok q=>k q.1 q.2
def puJ {α:Type} (m:Except Int α) (n:Nat):Except Int (α × Nat):=match m with
 | .error e=>.error e
 | .ok x=>.ok (x,n)
def eg' (B:BoT) (cx:Ctx) (t:Tr) (n:Nat):Except Int (Tr × Nat):=if 256 < cx.length then .error 5 else whnfTop B cx t (n:Int)
def dv' (B:BoT) (cx:Ctx) (x y:Tr) (u:Bool) (n:Nat):Except Int (Bool × Nat):=if 256 < cx.length then .error 5 else hT' B cx x y (n:Int) u
abbrev RcJ:=Ctx -> Tr -> Nat -> Except Int (Tr × Nat)
def sortX (kind:Int) (l:List Atom):Tr:=.mk ⟨2,kind,(l.length:Int)⟩ (l.map fun a=>.mk ⟨3,a.var,a.add⟩ [])
def dJ' (B:BoT) (rc:RcJ) (cx:Ctx) (t:Tr) (n:Nat):Except Int ((Int × List Atom) × Nat) :=
 bdJ (rc cx t n) fun ty n=>bdJ (eg' B cx ty n) fun z n=>if (headT z).n.op ≠ 2 \/ 0 < (argsT z).length then .error 11 else .ok (((headT z).n.a,cH' (headT z)),n)
def ct' (B:BoT) (rc:RcJ) (cx:Ctx) (t ty:Tr) (n:Nat):Except Int (Unit × Nat) :=
 bdJ (rc cx t n) fun z n=>bdJ (dv' B cx z ty true n) fun b n=>if b = true then .ok ((),n) else .error 13
def ld' (B:BoT) (a:Int) (ps:List Tr) (i ni:Nat):Except Int Tr :=
 if i < ni then br' ps (i:Int) ps.length ((qiM B a).getD i (varX 0)) else aL' (.mk ⟨9,a,0⟩ []) (ps.map (fun p=>ax' p ni 0) ++ varsM ni 0)
def gw' (B:BoT) (a:Int) (ps:List Tr) (ni:Nat):Nat -> Nat -> Ctx -> Tr -> Nat -> Except Int (Int × Nat)
 | 0,_,cx,m,n=>bdJ (eg' B cx m n) fun f n=>if (headT f).n.op ≠ 2 \/ 0 < (argsT f).length then .error 16 else .ok ((headT f).n.a,n)
 | k + 1,i,cx,m,n=>bdJ (eg' B cx m n) fun f n=>if (headT f).n.op ≠ 4 \/ 0 < (argsT f).length then .error 16 else
   bdJ (puJ (ld' B a ps i ni) n) fun w n=>bdJ (dv' B cx (kidD (headT f) 0) w false n) fun b n=>if b = true then gw' B a ps ni k (i + 1) (cx ++ [(kidD (headT f) 0,none)]) (kidD (headT f) 1) n else .error 16
def id' (B:BoT) (cx:Ctx) (a:Int) (ps:List Tr) (m:Tr) (n:Nat):Except Int (Int × Nat):=gw' B a ps (qiM B a).length ((qiM B a).length + 1) 0 cx m n
def ie' (B:BoT) (rc:RcJ):Ctx -> List Tr -> Nat -> Except Int (Bool × Nat)
 | _,[],n=>.ok (true,n)
 | cx,a :: r,n=>bdJ (dJ' B rc cx a n) fun q n=>if q.1 ≠ 0 then .ok (false,n) else ie' B rc (cx ++ [(a,none)]) r n
def fU' (ps:List Tr):Ctx:=ps.map fun p=>(p,none)
def cC' (B:BoT) (rc:RcJ) (a:Int) (n:Nat):Except Int (Bool × Nat) :=
 if (entD B a).ctors.length = 0 then .ok (true,n) else if 1 < (entD B a).ctors.length then .ok (false,n) else ie' B rc (fU' (psM B a)) (agM B a 0) n
def aD' (B:BoT) (rc:RcJ) (cx:Ctx) (a:Int) (ps:List Tr) (mo:Tr):Nat -> List Tr -> Nat -> Except Int (Unit × Nat)
 | _,[],n=>.ok ((),n)
 | k,b :: r,n=>bdJ (puJ (bY' B a (k:Int) ps mo) n) fun ty n=>bdJ (ct' B rc cx b ty n) fun _ n=>aD' B rc cx a ps mo (k + 1) r n
def dT' (B:BoT) (rc:RcJ) (cx:Ctx) (nd:Nd) (ks:List Tr) (n:Nat):Except Int (Tr × Nat) :=
 let np:=(psM B nd.a).length
 let mo:=ks.getD 0 (varX 0)
 let sc:=ks.getD 1 (varX 0)
 bdJ (rc cx sc n) fun ty n=>bdJ (eg' B cx ty n) fun z n =>
  if (headT z).n.op ≠ 9 \/ (headT z).n.a ≠ nd.a \/ (argsT z).length ≠ np + (qiM B nd.a).length then .error 14
  else if (ks.drop 2).length ≠ (entD B nd.a).ctors.length then .error 15
  else bdJ (rc cx mo n) fun mt n=>bdJ (id' B cx nd.a ((argsT z).take np) mt n) fun kind n =>
   bdJ (if (tr (entD B nd.a).sort).n.a = 0 /\ kind = 1 then cC' B rc nd.a n else .ok (true,n)) fun s n=>if s = false then .error 17 else
    bdJ (aD' B rc cx nd.a ((argsT z).take np) mo 0 (ks.drop 2) n) fun _ n=>puJ (aL' mo ((argsT z).drop np ++ [sc])) n
def eh' (B:BoT) (rc:RcJ) (cx:Ctx) (t:Tr):Nat -> Nat -> Nat -> Except Int (Unit × Nat)
 | 0,_,n=>.ok ((),n)
 | k + 1,i,n=>bdJ (dJ' B rc cx (kidD t (2 * i)) n) fun _ n=>eh' B rc cx t k (i + 1) n
def cD' (B:BoT) (rc:RcJ) (cx:Ctx) (t:Tr) (nb:Nat):Nat -> Nat -> Nat -> Except Int (Unit × Nat)
 | 0,_,n=>.ok ((),n)
 | k + 1,i,n=>bdJ (ct' B rc cx (kidD t (2 * i + 1)) (ax' (kidD t (2 * i)) nb 0) n) fun _ n=>cD' B rc cx t nb k (i + 1) n
def sw' (B:BoT) (rc:RcJ) (cx:Ctx) (t:Tr) (n:Nat):Except Int (Tr × Nat) :=
 bdJ (eh' B rc cx t t.n.b.toNat 0 n) fun _ n=>if eR' B t ≠ 0 then .error (eR' B t) else
  bdJ (cD' B rc (cx ++ aQ' t) t t.n.b.toNat t.n.b.toNat 0 n) fun _ n=>.ok (kidD t (2 * t.n.a.toNat),n)
def ot' (t:Tr) (n:Nat):Except Int (Tr × Nat):=if upE (cH' t) 1 ≠ 0 then .error (upE (cH' t) 1) else .ok (sortX 1 (upR (cH' t) 1),n)
def jpi (B:BoT) (rc:RcJ) (cx:Ctx) (t:Tr) (n:Nat):Except Int (Tr × Nat) :=
 bdJ (dJ' B rc cx (kidD t 0) n) fun p n=>bdJ (dJ' B rc (cx ++ [(kidD t 0,none)]) (kidD t 1) n) fun q n =>
  if nw' p.2 q.2 ≠ 0 then .error (nw' p.2 q.2) else .ok (sortX q.1 (oK' p.2 q.2),n)
def vD' (B:BoT) (rc:RcJ) (cx:Ctx) (t:Tr) (n:Nat):Except Int (Tr × Nat) :=
 bdJ (dJ' B rc cx (kidD t 0) n) fun _ n=>bdJ (rc (cx ++ [(kidD t 0,none)]) (kidD t 1) n) fun z n=>puJ (bC' [kidD t 0] z) n
def vE' (B:BoT) (rc:RcJ) (cx:Ctx) (t:Tr) (n:Nat):Except Int (Tr × Nat) :=
 bdJ (rc cx (kidD t 0) n) fun ty n=>bdJ (eg' B cx ty n) fun z n=>if (headT z).n.op ≠ 4 \/ 0 < (argsT z).length then .error 12 else
  bdJ (ct' B rc cx (kidD t 1) (kidD (headT z) 0) n) fun _ n=>puJ (az' (kidD (headT z) 1) (kidD t 1) 0) n
def vF' (B:BoT) (rc:RcJ) (cx:Ctx) (t:Tr) (n:Nat):Except Int (Tr × Nat) :=
 bdJ (dJ' B rc cx (kidD t 0) n) fun _ n=>bdJ (ct' B rc cx (kidD t 1) (kidD t 0) n) fun _ n =>
  bdJ (rc (cx ++ [(kidD t 0,some (kidD t 1))]) (kidD t 2) n) fun z n=>puJ (az' z (kidD t 1) 0) n
def dg' (B:BoT) (rc:RcJ) (cx:Ctx) (t:Tr) (n:Nat):Except Int (Tr × Nat) :=
 if t.n.op = 1 then .ok (ax' (pU' cx t.n.a).1 (t.n.a + 1) 0,n)
 else if t.n.op = 2 then ot' t n
 else if t.n.op = 8 then .ok (tr (entD B t.n.a).type,n)
 else if t.n.op = 9 then puJ (qm' B t.n.a) n
 else if t.n.op = 10 then puJ (hZ' B t.n.a t.n.b) n
 else if t.n.op = 4 then jpi B rc cx t n
 else if t.n.op = 5 then vD' B rc cx t n
 else if t.n.op = 6 then vE' B rc cx t n
 else if t.n.op = 7 then vF' B rc cx t n
 else if t.n.op = 11 then dT' B rc cx t.n (kidsT t) n
 else sw' B rc cx t n
def bL' (B:BoT):Nat -> RcJ
 | 0,_,_,_=>.error 10
 | g + 1,cx,t,n=>dg' B (bL' B g) cx t n
structure gh' (B:BoT) (rc:RcJ):Prop where
 ft:∀ cx t n q,CxOk B cx -> cx.length <= 260 -> Ft (QB B) (cx.length:Int) t -> rc cx t n = .ok q -> Ft (QB B) (cx.length:Int) q.1
 le:∀ cx t n q,rc cx t n = .ok q -> q.2 <= n
 er:∀ cx t n e,rc cx t n = .error e -> e ≠ 0
theorem an' {α β:Type} {m:Except Int (α × Nat)} {k:α -> Nat -> Except Int (β × Nat)} {q:β × Nat} (h:bdJ m k = .ok q):∃ p,m = .ok p /\ k p.1 p.2 = .ok q:=by
 unfold bdJ at h;split at h
 ·cases h
 ·rename_i p
  exact ⟨p,rfl,h⟩
theorem bdJ_er {α β:Type} {m:Except Int (α × Nat)} {k:α -> Nat -> Except Int (β × Nat)} {e:Int} (h:bdJ m k = .error e):m = .error e \/ ∃ p,m = .ok p /\ k p.1 p.2 = .error e:=by
 unfold bdJ at h;split at h
 ·injection h with h
  subst h;exact .inl rfl
 ·rename_i p
  exact .inr ⟨p,rfl,h⟩
theorem dh' {α:Type} {m:Except Int α} {n:Nat} {q:α × Nat} (h:puJ m n = .ok q):m = .ok q.1 /\ q.2 = n:=by
 unfold puJ at h;split at h
 ·cases h
 ·injection h with h
  subst h;exact ⟨rfl,rfl⟩
theorem gi' {α:Type} {m:Except Int α} {n:Nat} {e:Int} (h:puJ m n = .error e):m = .error e:=by
 unfold puJ at h;split at h
 ·injection h with h
  subst h
  rfl
 ·cases h
section
variable {B:BoT} {rc:RcJ} {cx:Ctx}
theorem eC' {t:Tr} {n:Nat} {q:Tr × Nat} (h:eg' B cx t n = .ok q):cx.length <= 256 /\ whnfTop B cx t (n:Int) = .ok q /\ q.2 <= n:=by
 unfold eg' at h;split at h
 ·cases h
 ·exact ⟨by omega,h,iZ' h⟩
theorem gG' {x y:Tr} {u:Bool} {n:Nat} {q:Bool × Nat} (h:dv' B cx x y u n = .ok q):cx.length <= 256 /\ q.2 <= n:=by
 unfold dv' at h;split at h
 ·cases h
 ·refine ⟨by omega,?_⟩
  unfold hT' at h;have:=kZ' B _ _ _ _ _ _ _ h;unfold aX' at this;omega
theorem eW' (hB:GoodB B) (hcx:CxOk B cx) {x:Tr} {n:Nat} {q:Tr × Nat} (hx:Ft (QB B) (cx.length:Int) x) (h:eg' B cx x n = .ok q):cx.length <= 256 /\ q.2 <= n /\ Ft (QB B) (cx.length:Int) q.1:=by
 obtain ⟨h1,h2,h3⟩:=eC' h;exact ⟨h1,h3,(nA' hB hcx (by omega) hx h2).1⟩
theorem bA' (hB:GoodB B) (hr:gh' B rc) {t:Tr} {n:Nat} {q:(Int × List Atom) × Nat} (h:dJ' B rc cx t n = .ok q):cx.length <= 256 /\ q.2 <= n /\ (CxOk B cx -> Ft (QB B) (cx.length:Int) t -> ∃ s,Ft (QB B) (cx.length:Int) s /\ s.n.op = 2 /\ q.1 = (s.n.a,cH' s)):=by
 unfold dJ' at h;obtain ⟨p,h1,h⟩:=an' h;obtain ⟨z,h2,h⟩:=an' h;obtain ⟨c1,c2,c3⟩:=eC' h2;split at h
 ·cases h
 ·rename_i g
  injection h with h
  subst h;refine ⟨c1,KQ c3 (hr.le _ _ _ _ h1),fun hcx ht=>⟨headT z.1,?_,by omega,rfl⟩⟩;have hq:=hr.ft cx t n p hcx (by omega) ht h1;exact (eW' hB hcx hq h2).2.2.head
theorem bM' (hr:gh' B rc) {t ty:Tr} {n:Nat} {q:Unit × Nat} (h:ct' B rc cx t ty n = .ok q):cx.length <= 256 /\ q.2 <= n:=by
 unfold ct' at h;obtain ⟨p,h1,h⟩:=an' h;obtain ⟨z,h2,h⟩:=an' h;obtain ⟨c1,c2⟩:=gG' h2;split at h
 ·injection h with h
  subst h;exact ⟨c1,KQ c2 (hr.le _ _ _ _ h1)⟩
 ·cases h
structure qn' (vars:Int) (l:List Atom):Prop where
 lo:1 <= l.length
 hi:l.length <= 4
 up:(l.map Atom.var).Pairwise (· < ·)
 at_:∀ x ∈ l,0 <= x.var /\ x.var <= 16 /\ x.var <= vars /\ 0 <= x.add /\ x.add <= 1000
theorem le' {x:Tr} {N:Int} (hx:Ft (QB B) N x) (h2:x.n.op = 2):qn' B.vars (cH' x):=by
 obtain ⟨hrow,hl4,hlb,hks⟩:=jV' hx.ok h2;have hp:=hx.ok.pl;have hpp:(x.n.a = 0 \/ x.n.a = 1) /\ inR x.n.b 1 4 = true:=by simpa [ah',h2] using hp
 have hb:=aF'.1 hpp.2;have hal:=hx.al;have hinc:=hx.ok.2;obtain ⟨n,ks⟩:=x;have h2:n.op = 2:=h2;simp only [Tr.ks,Tr.n] at hlb hl4 hks hb;simp only [gq',if_pos h2,Bool.and_eq_true] at hinc;refine ⟨by simp [cH',Tr.ks]; omega,by simp [cH',Tr.ks]; omega,?_,?_⟩
 ·have:∀ (l:List Tr) (last:Int),og' last l = true -> (∀ y ∈ l,last < y.n.a) /\ (l.map fun y=>y.n.a).Pairwise (· < ·):=by
   intro l
   induction l with
   | nil=>intro last _; exact ⟨(fun y hy=>by cases hy),List.Pairwise.nil⟩
   | cons z l ih =>
    intro last h;simp only [og',Bool.and_eq_true,decide_eq_true_eq] at h;obtain ⟨i1,i2⟩:=ih z.n.a h.2;refine ⟨fun y hy=>?_,?_⟩
    ·rcases List.mem_cons.1 hy with rfl | hy
     ·exact h.1
     ·have:=i1 y hy; omega
    ·rw [List.map_cons,List.pairwise_cons]
     refine ⟨fun y hy=>?_,i2⟩;obtain ⟨z',hz',rfl⟩:=List.mem_map.1 hy;exact i1 z' hz'
  have:=(this ks (-1) hinc.1).2
  simpa [cH',Tr.ks,List.map_map,Function.comp_def] using this
 ·intro y hy
  obtain ⟨k,hk,rfl⟩:=List.mem_map.1 hy;obtain ⟨k3,kp⟩:=hks k hk;have h1:=ma' (iy'.1 hal).2 hk;obtain ⟨⟨o,a,b⟩,s⟩:=k;have hq:=(iy'.1 h1).1;have k3:o = 3:=k3;subst k3;have kpp:inR a 0 16 = true /\ inR b 0 1000 = true:=by simpa [ah',Tr.n] using kp
  have a1:=aF'.1 kpp.1;have a2:=aF'.1 kpp.2;simp [QB,aH',bh'] at hq;exact ⟨a1.1,a1.2,hq,a2.1,a2.2⟩
theorem jZ' {N:Int} {kind:Int} (hk:kind = 0 \/ kind = 1) {l:List Atom} (h:qn' B.vars l):Ft (QB B) N (sortX kind l):=by
 have hlen:(sortX kind l).ks.length = l.length:=by simp [sortX,Tr.ks]
 have hrow:row (sortX kind l) = ⟨2,kind,(l.length:Int)⟩ :: l.map fun a=>⟨3,a.var,a.add⟩:=by
  unfold sortX;simp only [row]
  congr 1
  induction l with
  | nil=>rfl
  | cons a l ih =>
   simp only [List.map_cons,rows,row];have:∀ (l:List Atom),rows (l.map fun a=>(.mk ⟨3,a.var,a.add⟩ []:Tr)) = l.map fun a=>⟨3,a.var,a.add⟩:=by
    intro l
    induction l with
    | nil=>rfl
    | cons b l ih=>simp [rows,row,ih]
   rw [this]
   rfl
 have hpl:ah' ⟨2,kind,(l.length:Int)⟩ = true:=by
  have h1:=h.lo;have h2:=h.hi;simp only [ah'];rw [if_neg (by decide),if_pos trivial];simp only [Bool.and_eq_true,Bool.or_eq_true,decide_eq_true_eq,aF'];exact ⟨hk,by omega,by omega⟩
 have hat:∀ a ∈ l,ah' ⟨3,a.var,a.add⟩ = true:=fun a ha=>by
  have:=h.at_ a ha;simp only [ah'];rw [if_neg (by decide),if_neg (by decide),if_pos trivial];simp only [Bool.and_eq_true,aF'];omega
 refine ⟨⟨⟨?_,?_⟩,?_⟩,?_,?_,?_⟩
 ·simp only [cnt,hpl]
  rw [if_pos ⟨trivial,by decide,by decide⟩];simp
 ·have:∀ (l:List Atom) (k:Nat),(∀ a ∈ l,ah' ⟨3,a.var,a.add⟩ = true) -> okL cnt nx (l.map fun a=>(.mk ⟨3,a.var,a.add⟩ []:Tr)) ⟨2,kind,(l.length:Int)⟩ .tm k:=by
   have gen:∀ (n:Nd),n.op = 2 -> ∀ (l:List Atom) (k:Nat),(∀ a ∈ l,ah' ⟨3,a.var,a.add⟩ = true) -> okL cnt nx (l.map fun a=>(.mk ⟨3,a.var,a.add⟩ []:Tr)) n .tm k:=by
    intro n hn l
    induction l with
    | nil=>intro k _; trivial
    | cons b l ih =>
     intro k hb;refine ⟨⟨?_,trivial⟩,ih _ fun a ha=>hb a (by simp [ha])⟩;have hnx:nx Md.tm n k = .am:=by simp [nx,hn]
     rw [hnx];simp [cnt,hb b (by simp)]
   intro l' k hb;exact gen _ rfl l' k hb
  exact this l 0 hat
 ·have:∀ (l:List Atom) (last:Int),(∀ a ∈ l,last < a.var) -> (l.map Atom.var).Pairwise (· < ·) -> og' last (l.map fun a=>(.mk ⟨3,a.var,a.add⟩ []:Tr)) = true:=by
   intro l
   induction l with
   | nil=>intro last _ _; rfl
   | cons b l ih =>
    intro last h1 h2;rw [List.map_cons,List.pairwise_cons] at h2;simp only [List.map_cons,og',Bool.and_eq_true,Tr.n];exact ⟨decide_eq_true (h1 b (by simp)),ih b.var (fun a ha=>h2.1 a.var (List.mem_map_of_mem ha)) h2.2⟩
  have h1:=this l (-1) (fun a ha=>by have:=h.at_ a ha; omega) h.up;have h3:∀ (l:List Atom),eP' (l.map fun a=>(.mk ⟨3,a.var,a.add⟩ []:Tr)) = true:=by
   intro l
   induction l with
   | nil=>rfl
   | cons b l ih=>simp [eP',gq',ih]
  simp [sortX,gq',h1,h3]
 ·rw [hrow]
  have:=h.hi;simp;omega
 ·intro q hq
  exfalso;simp only [sortX,varsT] at hq;rw [if_neg (by decide)] at hq;have:∀ (l:List Atom) (n:Nd) (nb k d:Int),varsK (l.map fun a=>(.mk ⟨3,a.var,a.add⟩ []:Tr)) n nb k d = []:=by
   intro l
   induction l with
   | nil=>intros; rfl
   | cons b l ih=>intros; simp [varsK,varsT,ih]
  rw [this] at hq;cases hq
 ·intro m hm
  rw [hrow] at hm;rcases List.mem_cons.1 hm with rfl | hm
  ·simp [QB,aH',bh']
  ·obtain ⟨a,ha,rfl⟩:=List.mem_map.1 hm
   have:=h.at_ a ha;simp [QB,aH',bh'];omega
theorem uI' {vars:Int} {l:List Atom} (h:qn' vars l) (he:upE l 1 = 0):qn' vars (upR l 1):=by
 have hR:upR l 1 = upL l 1:=by unfold upR; rw [if_pos he]
 rw [hR];have hmv:(upL l 1).map Atom.var = l.map Atom.var:=by simp [upL,List.map_map,Function.comp_def]
 have hany:∀ x ∈ l,x.add + 1 <= 1000:=by
  unfold upE at he;split at he
  ·cases he
  ·rw [if_neg (by decide)] at he
   split at he
   ·cases he
   ·rename_i g
    intro x hx;have:¬ (l.any fun x=>decide (1000 < x.add + 1)) = true:=g;rw [List.any_eq_true] at this
    by_cases q:1000 < x.add + 1
    ·exact absurd ⟨x,hx,by simpa using q⟩ this
    ·omega
 refine ⟨by simpa [upL] using h.lo,by simpa [upL] using h.hi,by rw [hmv]; exact h.up,fun y hy=>?_⟩;obtain ⟨x,hx,rfl⟩:=List.mem_map.1 hy;have:=h.at_ x hx;have:=hany x hx;simp only;omega
theorem qo' {vars:Int} {a b:List Atom} (ha:qn' vars a) (hb:qn' vars b) (he:nw' a b = 0):qn' vars (oK' a b):=by
 have hR:oK' a b = maxL a b:=by unfold oK'; rw [if_pos he]
 rw [hR];have hmv:=hL' (iA' (a ++ b)) (List.range 17);have hmv:(maxL a b).map Atom.var = eN' (iA' (a ++ b)) (List.range 17):=hmv;have hlen:(maxL a b).length <= 4:=by
  unfold nw' at he;split at he
  ·cases he
  ·split at he
   ·cases he
   ·omega
 have hfrom:∀ x v,iA' (a ++ b) x = some v -> ∃ y,(y ∈ a \/ y ∈ b) /\ y.var = x /\ y.add = v:=fun x v h=>by
  obtain ⟨y,hy,h1,h2⟩:=kV' h;exact ⟨y,List.mem_append.1 hy,h1,h2⟩
 have hmem:∀ y ∈ maxL a b,iA' (a ++ b) y.var = some y.add:=fun y hy=>by
  unfold maxL at hy;obtain ⟨v,_,hv⟩:=List.mem_filterMap.1 hy;cases h:iA' (a ++ b) v with
  | none=>rw [h] at hv; cases hv
  | some n =>
   rw [h] at hv;obtain rfl:=JB hv;exact h
 refine ⟨?_,hlen,by rw [hmv]; exact jU' _ _,fun y hy=>?_⟩
 ·obtain ⟨y,hy⟩:∃ y,y ∈ a:=by
   cases a with
   | nil=>have:=ha.lo; simp at this
   | cons y r=>exact ⟨y,by simp⟩
  have hyb:=ha.at_ y hy;obtain ⟨v,hv,_⟩:=sk' (l:=a ++ b) (y:=y) (by simp [hy]);have:(⟨y.var,v⟩:Atom) ∈ maxL a b:=by
   unfold maxL;refine List.mem_filterMap.2 ⟨y.var.toNat,List.mem_range.2 (by omega),?_⟩;rw [show ((y.var.toNat:Nat):Int) = y.var by omega,hv]
   rfl
  have:=List.length_pos_of_mem this;omega
 ·obtain ⟨z,hz,h1,h2⟩:=hfrom _ _ (hmem y hy)
  rw [<- h1,<- h2];rcases hz with hz | hz
  ·exact ha.at_ z hz
  ·exact hb.at_ z hz
end
theorem qp' {x:Tr} (h:Ok .tm x):x.n.op = 1 \/ x.n.op = 2 \/ x.n.op = 4 \/ x.n.op = 5 \/ x.n.op = 6 \/ x.n.op = 7 \/ x.n.op = 8 \/ x.n.op = 9 \/ x.n.op = 10 \/ x.n.op = 11 \/ x.n.op = 12:=by
 obtain ⟨n,ks⟩:=x;obtain ⟨hp,h3,h13,_⟩:=bG' h.kids.1;simp only [Tr.n];simp only [ah'] at hp
 repeat' split at hp
 all_goals first | omega | (exact absurd hp (by decide))
theorem aK' {Q:Nd -> Prop} {N:Int} {x:Tr} (h:Ft Q N x) (h4:x.n.op = 4 \/ x.n.op = 5):(kidsT x).length = 2 /\ Ft Q N (kidD x 0) /\ Ft Q (N + 1) (kidD x 1):=by
 obtain ⟨hkk,hkl⟩:=bi' h.ok (by omega) (by omega);have hkc:aw' x.n = 2:=by rcases h4 with h4 | h4 <;> simp [aw',h4]
 have f1:=h.kidN 0 (by rw [hkk]; omega) (b:=0) (by rcases h4 with h4 | h4 <;> simp [kb,bl',h4]);have f2:=h.kidN 1 (by rw [hkk]; omega) (b:=1) (by rcases h4 with h4 | h4 <;> simp [kb,bl',h4]);rw [Int.add_zero] at f1;exact ⟨by rw [hkk]; omega,f1,f2⟩
theorem ka' {Q:Nd -> Prop} {N:Int} {x:Tr} (h:Ft Q N x) (h6:x.n.op = 6):(kidsT x).length = 2 /\ Ft Q N (kidD x 0) /\ Ft Q N (kidD x 1):=by
 obtain ⟨hkk,hkl⟩:=bi' h.ok (by omega) (by omega);have hkc:aw' x.n = 2:=by simp [aw',h6]
 have f1:=h.kidN 0 (by rw [hkk]; omega) (b:=0) (by simp [kb,bl',h6]);have f2:=h.kidN 1 (by rw [hkk]; omega) (b:=0) (by simp [kb,bl',h6]);rw [Int.add_zero] at f1 f2;exact ⟨by rw [hkk]; omega,f1,f2⟩
theorem gH' {Q:Nd -> Prop} {N:Int} {x:Tr} (h:Ft Q N x) (h7:x.n.op = 7):(kidsT x).length = 3 /\ Ft Q N (kidD x 0) /\ Ft Q N (kidD x 1) /\ Ft Q (N + 1) (kidD x 2):=by
 obtain ⟨hkk,hkl⟩:=bi' h.ok (by omega) (by omega);have hkc:aw' x.n = 3:=by simp [aw',h7]
 have f1:=h.kidN 0 (by rw [hkk]; omega) (b:=0) (by simp [kb,bl',h7]);have f2:=h.kidN 1 (by rw [hkk]; omega) (b:=0) (by simp [kb,bl',h7]);have f3:=h.kidN 2 (by rw [hkk]; omega) (b:=1) (by simp [kb,bl',h7]);rw [Int.add_zero] at f1 f2;exact ⟨by rw [hkk]; omega,f1,f2,f3⟩
theorem eD' {Q:Nd -> Prop} {N:Int} {x:Tr} (h:Ft Q N x) (h11:x.n.op = 11):((kidsT x).length:Int) = 2 + x.n.b /\ 0 <= x.n.b /\ x.n.b <= 16 /\ ∀ y ∈ kidsT x,Ft Q N y:=by
 obtain ⟨h1,h2,h3,h4⟩:=aN' h.ok h11;exact ⟨by rw [h1]; exact h2,h3,h4,fy' h (by omega)⟩
theorem lf' {x:Tr} (h:Ok .tm x) (h2:x.n.op = 2):x.n.a = 0 \/ x.n.a = 1:=by
 have hp:=h.pl;have:(x.n.a = 0 \/ x.n.a = 1) /\ inR x.n.b 1 4 = true:=by simpa [ah',h2] using hp
 exact this.1
section
variable {B:BoT} {rc:RcJ} {cx:Ctx}
theorem di' (hB:GoodB B) (hr:gh' B rc) (hcx:CxOk B cx) {t:Tr} (ht:Ft (QB B) (cx.length:Int) t) {n:Nat} {q:(Int × List Atom) × Nat} (h:dJ' B rc cx t n = .ok q):cx.length <= 256 /\ (q.1.1 = 0 \/ q.1.1 = 1) /\ qn' B.vars q.1.2:=by
 obtain ⟨h1,h2,h3⟩:=bA' hB hr h;obtain ⟨s,hs,s2,he⟩:=h3 hcx ht;rw [he];exact ⟨h1,lf' hs.ok s2,le' hs s2⟩
theorem ch' {q:Tr × Option Tr}:(cx ++ [q]).length = cx.length + 1:=by simp
theorem fz' {x:Tr} {ys:List Tr} {e:Int} (h:aL' x ys = .error e):e = 9:=by
 unfold aL' at h;split at h
 ·injection h with h; exact h.symm
 ·cases h
theorem eE' {ys:List Tr} {x:Tr} {e:Int} (h:bC' ys x = .error e):e = 9:=by
 unfold bC' at h;split at h
 ·injection h with h; exact h.symm
 ·cases h
theorem ig' {b u:Tr} {v:Int} {e:Int} (h:az' b u v = .error e):e = 9:=by
 unfold az' at h;split at h
 ·injection h with h; exact h.symm
 ·cases h
theorem ebind_er {α β:Type} {m:Except Int α} {k:α -> Except Int β} {e:Int} (h:m.bind k = .error e):m = .error e \/ ∃ x,k x = .error e:=by
 cases m with
 | error a =>
  have h:Except.error a = Except.error e:=h;injection h with h
  exact .inl (by rw [h])
 | ok a=>exact .inr ⟨a,h⟩
theorem mo' {ps:List Tr} {more:Int} {e:Int}:∀ (i:Nat) (t:Tr),br' ps more i t = .error e -> e = 9
 | 0,t,h=>by cases h
 | i + 1,t,h=>by
  rcases ebind_er h with h | ⟨x,h⟩
  ·exact ig' h
  ·exact mo' i x h
theorem ou' {a b:Int} {ps:List Tr} {mo:Tr} {e:Int} (h:bY' B a b ps mo = .error e):e = 9:=by
 rcases ebind_er h with h | ⟨x,h⟩
 ·exact fz' h
 rcases ebind_er h with h | ⟨y,h⟩
 ·exact fz' h
 rcases ebind_er h with h | ⟨y,h⟩
 ·exact eE' h
 ·exact mo' _ _ h
theorem uJ' {a:Int} {e:Int} (h:qm' B a = .error e):e = 9:=by
 rcases ebind_er h with h | ⟨x,h⟩
 ·exact eE' h
 ·exact eE' h
theorem sx' {a b:Int} {e:Int} (h:hZ' B a b = .error e):e = 9:=by
 rcases ebind_er h with h | ⟨x,h⟩
 ·exact fz' h
 rcases ebind_er h with h | ⟨y,h⟩
 ·exact eE' h
 ·exact eE' h
theorem sy' {a:Int} {ps:List Tr} {i ni:Nat} {e:Int} (h:ld' B a ps i ni = .error e):e = 9:=by
 unfold ld' at h;split at h
 ·exact mo' _ _ h
 ·exact fz' h
theorem andE_er {m:Except Int (Bool × Nat)} {k:Nat -> Except Int (Bool × Nat)} {e:Int} (h:fe' m k = .error e):m = .error e \/ ∃ n,k n = .error e:=by
 unfold fe' at h;split at h
 ·injection h with h
  subst h;exact .inl rfl
 ·rename_i q
  split at h
  ·exact .inr ⟨_,h⟩
  ·cases h
abbrev wC' (rc:RcC):Prop:=∀ cx x y u n e,rc cx x y u n = .error e -> e ≠ 0
theorem mp' {rc:RcC} (hr:wC' rc) {e:Int}:∀ (xs ys:List Tr) (n:Nat),ix' rc cx xs ys n = .error e -> e ≠ 0
 | x :: r,y :: s,n,h=>by
  rcases andE_er h with h | ⟨m,h⟩
  ·exact hr _ _ _ _ _ _ h
  ·exact mp' hr r s _ h
 | [],ys,n,h=>by simp [ix'] at h
 | x :: r,[],n,h=>by simp [ix'] at h
theorem qq' {rc:RcC} (hr:wC' rc) {cx':Ctx} {e:Int}:∀ (xs ys:List Tr) (n:Nat),fR' rc cx cx' xs ys n = .error e -> e ≠ 0
 | x :: a :: r,y :: b :: s,n,h=>by
  rcases andE_er h with h | ⟨m,h⟩
  ·exact hr _ _ _ _ _ _ h
  rcases andE_er h with h | ⟨m,h⟩
  ·exact hr _ _ _ _ _ _ h
  ·exact qq' hr r s _ h
 | [],ys,n,h=>by simp [fR'] at h
 | [x],ys,n,h=>by simp [fR'] at h
 | x :: a :: r,[],n,h=>by simp [fR'] at h
 | x :: a :: r,[y],n,h=>by simp [fR'] at h
theorem qr' {rc:RcC} (hr:wC' rc) {f g:Tr} {u:Bool} {n:Nat} {e:Int} (h:de' B rc cx f g u n = .error e):e ≠ 0:=by
 unfold de' at h;split at h
 ·cases h
 split at h
 ·rcases andE_er h with h | ⟨m,h⟩
  ·exact hr _ _ _ _ _ _ h
  ·exact hr _ _ _ _ _ _ h
 split at h
 ·rcases andE_er h with h | ⟨m,h⟩
  ·exact hr _ _ _ _ _ _ h
  ·exact hr _ _ _ _ _ _ h
 split at h
 ·split at h
  ·unfold gf' at h
   split at h
   ·exact qq' hr _ _ _ h
   ·cases h
  ·cases h
 split at h
 ·exact mp' hr _ _ _ h
 ·cases h
theorem mq' {x:Tr} {f:Int} {e:Int} (h:whnfTop B cx x f = .error e):e ≠ 0:=by
 have:=hI' _ _ _ _ _ h;omega
theorem mr' (B:BoT):∀ (g:Nat),wC' (kY' B g)
 | 0,cx,x,y,u,n,e,h=>by
  simp only [kY'] at h;injection h with h
  omega
 | g + 1,cx,x,y,u,n,e,h=>by
  simp only [kY'] at h;split at h
  ·injection h with h
   omega
  split at h
  ·cases h
  split at h
  ·injection h with h
   omega
  split at h
  ·rename_i er hw
   injection h with h
   subst h;exact mq' hw
  split at h
  ·rename_i er hw
   injection h with h
   subst h;exact mq' hw
  ·unfold jW' at h
   split at h
   ·cases h
   rcases andE_er h with h | ⟨m,h⟩
   ·exact qr' (mr' B g) h
   ·exact mp' (mr' B g) _ _ _ h
theorem fA' {t:Tr} {n:Nat} {e:Int} (h:eg' B cx t n = .error e):e ≠ 0:=by
 unfold eg' at h;split at h
 ·injection h with h
  omega
 ·exact mq' h
theorem lg' {x y:Tr} {u:Bool} {n:Nat} {e:Int} (h:dv' B cx x y u n = .error e):e ≠ 0:=by
 unfold dv' at h;split at h
 ·injection h with h
  omega
 ·exact mr' B _ _ _ _ _ _ _ h
theorem dK' (hr:gh' B rc) {t:Tr} {n:Nat} {e:Int} (h:dJ' B rc cx t n = .error e):e ≠ 0:=by
 rcases bdJ_er h with h | ⟨p,_,h⟩
 ·exact hr.er _ _ _ _ h
 rcases bdJ_er h with h | ⟨p,_,h⟩
 ·exact fA' h
 split at h
 ·injection h with h
  omega
 ·cases h
theorem ei' (hr:gh' B rc) {t ty:Tr} {n:Nat} {e:Int} (h:ct' B rc cx t ty n = .error e):e ≠ 0:=by
 rcases bdJ_er h with h | ⟨p,_,h⟩
 ·exact hr.er _ _ _ _ h
 rcases bdJ_er h with h | ⟨p,_,h⟩
 ·exact lg' h
 split at h
 ·cases h
 ·injection h with h
  omega
theorem nC' {a:Int} {ps:List Tr} {ni:Nat} {e:Int}:∀ (k i:Nat) (cx:Ctx) (m:Tr) (n:Nat),gw' B a ps ni k i cx m n = .error e -> e ≠ 0
 | 0,i,cx,m,n,h=>by
  rcases bdJ_er h with h | ⟨p,_,h⟩
  ·exact fA' h
  split at h
  ·injection h with h
   omega
  ·cases h
 | k + 1,i,cx,m,n,h=>by
  rcases bdJ_er h with h | ⟨p,_,h⟩
  ·exact fA' h
  split at h
  ·injection h with h
   omega
  rcases bdJ_er h with h | ⟨p,_,h⟩
  ·have:=sy' (gi' h)
   omega
  rcases bdJ_er h with h | ⟨p,_,h⟩
  ·exact lg' h
  split at h
  ·exact nC' k _ _ _ _ h
  ·injection h with h
   omega
theorem kb' {a:Int} {ps:List Tr} {ni:Nat} {q:Int × Nat}:∀ (k i:Nat) (cx:Ctx) (m:Tr) (n:Nat),gw' B a ps ni k i cx m n = .ok q -> q.2 <= n
 | 0,i,cx,m,n,h=>by
  obtain ⟨p,h1,h⟩:=an' h;have:=(eC' h1).2.2;split at h
  ·cases h
  ·injection h with h
   subst h;exact this
 | k + 1,i,cx,m,n,h=>by
  obtain ⟨p,h1,h⟩:=an' h;have a1:=(eC' h1).2.2;split at h
  ·cases h
  obtain ⟨p2,h2,h⟩:=an' h;have a2:=(dh' h2).2;obtain ⟨p3,h3,h⟩:=an' h;have a3:=(gG' h3).2;split at h
  ·have:=kb' k _ _ _ _ h
   omega
  ·cases h
theorem nD' (hr:gh' B rc) {e:Int}:∀ (l:List Tr) (cx:Ctx) (n:Nat),ie' B rc cx l n = .error e -> e ≠ 0
 | [],cx,n,h=>by cases h
 | a :: r,cx,n,h=>by
  rcases bdJ_er h with h | ⟨p,_,h⟩
  ·exact dK' hr h
  split at h
  ·cases h
  ·exact nD' hr r _ _ h
theorem nE' (hB:GoodB B) (hr:gh' B rc) {q:Bool × Nat}:∀ (l:List Tr) (cx:Ctx) (n:Nat),ie' B rc cx l n = .ok q -> q.2 <= n
 | [],cx,n,h=>by
  injection h with h
  subst h;exact KJ _
 | a :: r,cx,n,h=>by
  obtain ⟨p,h1,h⟩:=an' h;have a1:=(bA' hB hr h1).2.1;split at h
  ·injection h with h
   subst h;exact a1
  ·have:=nE' hB hr r _ _ h
   omega
theorem ov' (hr:gh' B rc) {a:Int} {n:Nat} {e:Int} (h:cC' B rc a n = .error e):e ≠ 0:=by
 unfold cC' at h;split at h
 ·cases h
 split at h
 ·cases h
 ·exact nD' hr _ _ _ h
theorem jd' (hB:GoodB B) (hr:gh' B rc) {a:Int} {n:Nat} {q:Bool × Nat} (h:cC' B rc a n = .ok q):q.2 <= n:=by
 unfold cC' at h;split at h
 ·injection h with h
  subst h;exact KJ _
 split at h
 ·injection h with h
  subst h;exact KJ _
 ·exact nE' hB hr _ _ _ h
theorem gj' (hr:gh' B rc) {a:Int} {ps:List Tr} {mo:Tr} {e:Int}:∀ (l:List Tr) (k n:Nat),aD' B rc cx a ps mo k l n = .error e -> e ≠ 0
 | [],k,n,h=>by cases h
 | b :: r,k,n,h=>by
  rcases bdJ_er h with h | ⟨p,_,h⟩
  ·have:=ou' (gi' h)
   omega
  rcases bdJ_er h with h | ⟨p,_,h⟩
  ·exact ei' hr h
  ·exact gj' hr r _ _ h
theorem gk' (hr:gh' B rc) {a:Int} {ps:List Tr} {mo:Tr} {q:Unit × Nat}:∀ (l:List Tr) (k n:Nat),aD' B rc cx a ps mo k l n = .ok q -> q.2 <= n
 | [],k,n,h=>by
  injection h with h
  subst h;exact KJ _
 | b :: r,k,n,h=>by
  obtain ⟨p,h1,h⟩:=an' h;have a1:=(dh' h1).2;obtain ⟨p2,h2,h⟩:=an' h;have a2:=(bM' hr h2).2;have:=gk' hr r _ _ h;omega
theorem lh' (hr:gh' B rc) {t:Tr} {e:Int}:∀ (k i n:Nat),eh' B rc cx t k i n = .error e -> e ≠ 0
 | 0,i,n,h=>by cases h
 | k + 1,i,n,h=>by
  rcases bdJ_er h with h | ⟨p,_,h⟩
  ·exact dK' hr h
  ·exact lh' hr k _ _ h
theorem li' (hB:GoodB B) (hr:gh' B rc) {t:Tr} {q:Unit × Nat}:∀ (k i n:Nat),eh' B rc cx t k i n = .ok q -> q.2 <= n /\ (0 < k -> cx.length <= 256)
 | 0,i,n,h=>by
  injection h with h
  subst h;exact ⟨KJ _,fun h=>by omega⟩
 | k + 1,i,n,h=>by
  obtain ⟨p,h1,h⟩:=an' h;have a1:=bA' hB hr h1;have:=li' hB hr k _ _ h;exact ⟨by omega,fun _=>a1.1⟩
theorem je' (hr:gh' B rc) {t:Tr} {nb:Nat} {e:Int}:∀ (k i n:Nat),cD' B rc cx t nb k i n = .error e -> e ≠ 0
 | 0,i,n,h=>by cases h
 | k + 1,i,n,h=>by
  rcases bdJ_er h with h | ⟨p,_,h⟩
  ·exact ei' hr h
  ·exact je' hr k _ _ h
theorem jf' (hr:gh' B rc) {t:Tr} {nb:Nat} {q:Unit × Nat}:∀ (k i n:Nat),cD' B rc cx t nb k i n = .ok q -> q.2 <= n
 | 0,i,n,h=>by
  injection h with h
  subst h;exact KJ _
 | k + 1,i,n,h=>by
  obtain ⟨p,h1,h⟩:=an' h;have a1:=(bM' hr h1).2;have:=jf' hr k _ _ h;omega
end
section
variable {B:BoT} {rc:RcJ} {cx:Ctx}
theorem sA' (hr:gh' B rc) {t:Tr} {n:Nat} {e:Int} (h:dg' B rc cx t n = .error e):e ≠ 0:=by
 unfold dg' at h;split at h
 ·cases h
 split at h
 ·unfold ot' at h
  split at h
  ·injection h with h
   omega
  ·cases h
 split at h
 ·cases h
 split at h
 ·have:=uJ' (gi' h)
  omega
 split at h
 ·have:=sx' (gi' h)
  omega
 split at h
 ·unfold jpi at h
  rcases bdJ_er h with h | ⟨p,_,h⟩
  ·exact dK' hr h
  rcases bdJ_er h with h | ⟨q,_,h⟩
  ·exact dK' hr h
  split at h
  ·injection h with h
   omega
  ·cases h
 split at h
 ·unfold vD' at h
  rcases bdJ_er h with h | ⟨p,_,h⟩
  ·exact dK' hr h
  rcases bdJ_er h with h | ⟨q,_,h⟩
  ·exact hr.er _ _ _ _ h
  have:=eE' (gi' h);omega
 split at h
 ·unfold vE' at h
  rcases bdJ_er h with h | ⟨p,_,h⟩
  ·exact hr.er _ _ _ _ h
  rcases bdJ_er h with h | ⟨q,_,h⟩
  ·exact fA' h
  split at h
  ·injection h with h
   omega
  rcases bdJ_er h with h | ⟨q,_,h⟩
  ·exact ei' hr h
  have:=ig' (gi' h);omega
 split at h
 ·unfold vF' at h
  rcases bdJ_er h with h | ⟨p,_,h⟩
  ·exact dK' hr h
  rcases bdJ_er h with h | ⟨q,_,h⟩
  ·exact ei' hr h
  rcases bdJ_er h with h | ⟨q,_,h⟩
  ·exact hr.er _ _ _ _ h
  have:=ig' (gi' h);omega
 split at h
 ·unfold dT' at h
  simp only at h;rcases bdJ_er h with h | ⟨p,_,h⟩
  ·exact hr.er _ _ _ _ h
  rcases bdJ_er h with h | ⟨q,_,h⟩
  ·exact fA' h
  split at h
  ·injection h with h
   omega
  split at h
  ·injection h with h
   omega
  rcases bdJ_er h with h | ⟨q,_,h⟩
  ·exact hr.er _ _ _ _ h
  rcases bdJ_er h with h | ⟨q,_,h⟩
  ·exact nC' _ _ _ _ _ h
  rcases bdJ_er h with h | ⟨q,_,h⟩
  ·split at h
   ·exact ov' hr h
   ·cases h
  split at h
  ·injection h with h
   omega
  rcases bdJ_er h with h | ⟨q,_,h⟩
  ·exact gj' hr _ _ _ h
  have:=fz' (gi' h);omega
 ·unfold sw' at h
  rcases bdJ_er h with h | ⟨p,_,h⟩
  ·exact lh' hr _ _ _ h
  split at h
  ·injection h with h
   omega
  rcases bdJ_er h with h | ⟨p,_,h⟩
  ·exact je' hr _ _ _ h
  cases h
theorem sB' (hB:GoodB B) (hr:gh' B rc) {t:Tr} {n:Nat} {q:Tr × Nat} (h:dg' B rc cx t n = .ok q):q.2 <= n:=by
 unfold dg' at h;split at h
 ·injection h with h
  subst h;exact KJ _
 split at h
 ·unfold ot' at h
  split at h
  ·cases h
  ·injection h with h
   subst h;exact KJ _
 split at h
 ·injection h with h
  subst h;exact KJ _
 split at h
 ·exact Nat.le_of_eq (dh' h).2
 split at h
 ·exact Nat.le_of_eq (dh' h).2
 split at h
 ·unfold jpi at h
  obtain ⟨p1,h1,h⟩:=an' h;obtain ⟨p2,h2,h⟩:=an' h;have a1:=(bA' hB hr h1).2.1;have a2:=(bA' hB hr h2).2.1;split at h
  ·cases h
  ·injection h with h
   subst h;simp only;omega
 split at h
 ·unfold vD' at h
  obtain ⟨p1,h1,h⟩:=an' h;obtain ⟨p2,h2,h⟩:=an' h;have a1:=(bA' hB hr h1).2.1;have a2:=hr.le _ _ _ _ h2;have a3:=(dh' h).2;omega
 split at h
 ·unfold vE' at h
  obtain ⟨p1,h1,h⟩:=an' h;obtain ⟨p2,h2,h⟩:=an' h;have a1:=hr.le _ _ _ _ h1;have a2:=(eC' h2).2.2;split at h
  ·cases h
  obtain ⟨p3,h3,h⟩:=an' h;have a3:=(bM' hr h3).2;have a4:=(dh' h).2;omega
 split at h
 ·unfold vF' at h
  obtain ⟨p1,h1,h⟩:=an' h;obtain ⟨p2,h2,h⟩:=an' h;obtain ⟨p3,h3,h⟩:=an' h;have a1:=(bA' hB hr h1).2.1;have a2:=(bM' hr h2).2;have a3:=hr.le _ _ _ _ h3;have a4:=(dh' h).2;omega
 split at h
 ·unfold dT' at h
  simp only at h;obtain ⟨p1,h1,h⟩:=an' h;obtain ⟨p2,h2,h⟩:=an' h;have a1:=hr.le _ _ _ _ h1;have a2:=(eC' h2).2.2;split at h
  ·cases h
  split at h
  ·cases h
  obtain ⟨p3,h3,h⟩:=an' h;obtain ⟨p4,h4,h⟩:=an' h;obtain ⟨p5,h5,h⟩:=an' h;have a3:=hr.le _ _ _ _ h3;have a4:=kb' _ _ _ _ _ h4;have a5:p5.2 <= p4.2:=by
   split at h5
   ·exact jd' hB hr h5
   ·injection h5 with h5
    subst h5;exact KJ _
  split at h
  ·cases h
  obtain ⟨p6,h6,h⟩:=an' h;have a6:=gk' hr _ _ _ h6;have a7:=(dh' h).2;omega
 ·unfold sw' at h
  obtain ⟨p1,h1,h⟩:=an' h;have a1:=(li' hB hr _ _ _ h1).1;split at h
  ·cases h
  obtain ⟨p2,h2,h⟩:=an' h;have a2:=jf' hr _ _ _ h2;injection h with h
  subst h;simp only;omega
theorem ej' {α:Type} {l:List α} {i:Nat} {d:α} (h:i < l.length):l.getD i d ∈ l:=by
 rw [List.getD_eq_getElem?_getD,List.getElem?_eq_getElem h];exact List.getElem_mem h
theorem sC' (hB:GoodB B) (hr:gh' B rc) (hcx:CxOk B cx) (hcl:cx.length <= 260) {t:Tr} (ht:Ft (QB B) (cx.length:Int) t) {n:Nat} {q:Tr × Nat} (h:dg' B rc cx t n = .ok q):Ft (QB B) (cx.length:Int) q.1:=by
 have h0:(0:Int) <= (cx.length:Int):=by omega
 unfold dg' at h;split at h
 ·rename_i g
  injection h with h
  subst h;obtain ⟨n1,ks⟩:=t;obtain ⟨v0,v1,_⟩:=ht.var_lt g;obtain ⟨c1,c2⟩:=hcx _ _ (dG' v0 v1);have:=c1.lift (qk B) (b:=n1.a + 1) (by omega) (by omega) (by omega);refine this.mono ?_;omega
 split at h
 ·unfold ot' at h
  rename_i g;split at h
  ·cases h
  ·rename_i g1
   injection h with h
   subst h;exact jZ' (.inr rfl) (uI' (le' ht g) (by omega))
 split at h
 ·rename_i g
  injection h with h
  subst h;obtain ⟨i,x,ty,bo,hi,hx,he,hd⟩:=hB.dfn ht.node' g;simp only;rw [he,hd.type,eb' hd.ft.ok];exact (hd.ft.wk fun m hm=>ec' (Nat.le_of_lt (ai' hx)) hm).mono h0
 split at h
 ·rename_i g
  have hp:=aU' ht.ok.pl;exact (wp' hB (uq' ht.node' g hp.2.2.1) (dh' h).1).mono h0
 split at h
 ·rename_i g
  have hp:=aU' ht.ok.pl;exact (uH' hB (kR' ht.node' (.inl g)) hp.1 (ns' ht.node' g) (dh' h).1).mono h0
 split at h
 ·unfold jpi at h
  rename_i g;obtain ⟨_,k0,k1⟩:=aK' ht (.inl g);obtain ⟨p1,h1,h⟩:=an' h;obtain ⟨p2,h2,h⟩:=an' h;obtain ⟨a1,a2,a3⟩:=di' hB hr hcx k0 h1;obtain ⟨b1,b2,b3⟩:=di' hB hr (hcx.snoc k0 fun x hx=>by cases hx) (t:=kidD t 1) (by rw [ch']; exact k1.mono (by omega)) h2;split at h
  ·cases h
  ·rename_i g1
   injection h with h
   subst h;exact jZ' b2 (qo' a3 b3 (by omega))
 split at h
 ·unfold vD' at h
  rename_i g;obtain ⟨_,k0,k1⟩:=aK' ht (.inr g);obtain ⟨p1,h1,h⟩:=an' h;obtain ⟨p2,h2,h⟩:=an' h;obtain ⟨a1,a2,a3⟩:=di' hB hr hcx k0 h1;have:=hr.ft _ _ _ _ (hcx.snoc k0 fun x hx=>by cases hx) (by rw [ch']; omega) (by rw [ch']; exact k1.mono (by omega)) h2;rw [ch'] at this;refine bb' (qk B) (this.mono (by simp)) (fun i y hy=>?_) (dh' h).1;have hi:=ai' hy;obtain rfl:i = 0:=by simp at hi; omega
  simp only [List.getElem?_cons_zero,Option.some.injEq] at hy;subst hy;exact k0.mono (by omega)
 split at h
 ·unfold vE' at h
  rename_i g;obtain ⟨_,k0,k1⟩:=ka' ht g;obtain ⟨p1,h1,h⟩:=an' h;obtain ⟨p2,h2,h⟩:=an' h;have f1:=hr.ft _ _ _ _ hcx hcl k0 h1;obtain ⟨_,_,f2⟩:=eW' hB hcx f1 h2;split at h
  ·cases h
  rename_i g1;obtain ⟨p3,h3,h⟩:=an' h;obtain ⟨_,z0,z1⟩:=aK' f2.head (.inl (by omega));have:=aI' (qk B) (v:=0) (z1.mono (by omega)) k1 h0 (by omega) (by omega) (by omega) (dh' h).1;exact this.mono (by omega)
 split at h
 ·unfold vF' at h
  rename_i g;obtain ⟨_,k0,k1,k2⟩:=gH' ht g;obtain ⟨p1,h1,h⟩:=an' h;obtain ⟨p2,h2,h⟩:=an' h;obtain ⟨p3,h3,h⟩:=an' h;obtain ⟨a1,a2,a3⟩:=di' hB hr hcx k0 h1;have:=hr.ft _ _ _ _ (hcx.snoc k0 fun x hx=>by injection hx with hx; rw [<- hx]; exact k1) (by rw [ch']; omega) (by rw [ch']; exact k2.mono (by omega)) h3;rw [ch'] at this;have:=aI' (qk B) (v:=0) (this.mono (by omega)) k1 h0 (by omega) (by omega) (by omega) (dh' h).1;exact this.mono (by omega)
 split at h
 ·rename_i g
  obtain ⟨l1,l2,l3,kf⟩:=eD' ht g;unfold dT' at h;simp only at h;obtain ⟨p1,h1,h⟩:=an' h;obtain ⟨p2,h2,h⟩:=an' h;split at h
  ·cases h
  split at h
  ·cases h
  obtain ⟨p3,h3,h⟩:=an' h;obtain ⟨p4,h4,h⟩:=an' h;obtain ⟨p5,h5,h⟩:=an' h;split at h
  ·cases h
  obtain ⟨p6,h6,h⟩:=an' h;have k0:Ft (QB B) (cx.length:Int) ((kidsT t).getD 0 (varX 0)):=kf _ (ej' (by omega));have k1:Ft (QB B) (cx.length:Int) ((kidsT t).getD 1 (varX 0)):=kf _ (ej' (by omega));have f1:=hr.ft _ _ _ _ hcx hcl k1 h1;obtain ⟨_,_,f2⟩:=eW' hB hcx f1 h2;refine aE' (qk B) k0 (fun y hy=>?_) (dh' h).1;rcases List.mem_append.1 hy with hy | hy
  ·exact f2.args _ (List.mem_of_mem_drop hy)
  ·simp only [List.mem_singleton] at hy
   subst hy;exact k1
 ·rename_i g1 g2 g8 g9 g10 g4 g5 g6 g7 g11
  have g12:t.n.op = 12:=by
   have:=qp' ht.ok;omega
  have hl:=aW' ht.ok g12;unfold sw' at h;obtain ⟨p1,h1,h⟩:=an' h;split at h
  ·cases h
  obtain ⟨p2,h2,h⟩:=an' h;injection h with h
  subst h;exact (bu' ht g12 (i:=t.n.a.toNat) (by omega)).2.2.1
theorem qs' (hB:GoodB B) (hr:gh' B rc):gh' B (dg' B rc) :=
 ⟨fun cx t n q h1 h2 h3 h=>sC' hB hr h1 h2 h3 h,fun cx t n q h=>sB' hB hr h,fun cx t n e h=>sA' hr h⟩
theorem cy' (hB:GoodB B):∀ (g:Nat),gh' B (bL' B g)
 | 0=>⟨fun cx t n q h1 h2 h3 h=>by simp [bL'] at h,fun cx t n q h=>by simp [bL'] at h,fun cx t n e h=>by simp [bL'] at h; omega⟩
 | g + 1=>qs' hB (cy' hB g)
end
theorem ih' (w:World) :
  CC 68 #[iV 0] w (fun e w'=>(∃ v,e = .returned v) /\ Kp [] w w'):=by
 refine oF Tryz.func68 ?_;refine cO (args:=[_]) 7 [] τok Tryz.func68 ?_;exact ⟨⟨_,rfl⟩,Kp.refl _ _⟩
theorem aM' (er:Int) (he:er ≠ 0) (w:World) :
  CC 68 #[iV er] w (fun e w'=>e = .panicked (dm' er) /\ Kp [] w w'):=by
 refine oF Tryz.func68 ?_;refine cO (args:=[_]) 7 [] τok Tryz.func68 ?_;refine au' (p:=er ≠ 0) he ?_;refine run (jN' _ w) ?_;exact ⟨rfl,Kp.refl _ _⟩
theorem qt' (a:Option Addr) (n c:Nat) (h:n <= 256) (w:World) :
  CC 100 #[.slice a n c] w (fun e w'=>(∃ v,e = .returned v) /\ Kp [] w w'):=by
 refine oF Tryz.func100 ?_;refine cO (args:=[_]) 6 [] τok Tryz.func100 ?_;refine cF' (p:=(256:Int) < (n:Int)) (by omega) ?_;exact ⟨⟨_,rfl⟩,Kp.refl _ _⟩
theorem qu' (a:Option Addr) (n c:Nat) (h:256 < n) (w:World) :
  CC 100 #[.slice a n c] w (fun e w'=>e = .panicked (dm' 5) /\ Kp [] w w'):=by
 refine oF Tryz.func100 ?_;refine cO (args:=[_]) 6 [] τok Tryz.func100 ?_;refine au' (p:=(256:Int) < (n:Int)) (by omega) ?_;refine ab' (aM' 5 (by decide) w) ?_;rintro e w1 ⟨rfl,hk1⟩;exact ⟨rfl,hk1⟩
theorem xk' {P:Program} {τ:Tau} (hτ:aB' P τ) {T T':TypeId} {q q':Nat × Nat × Nat} (hs:Go.Wx.look τ.slcs T = some q) (hs':Go.Wx.look τ.slcs T' = some q') {ty:Nat} {args:Array Value} {w:World} {k:Value -> World -> Prop}
  (h:EvRun P (Builtin.append_ #[T,T] ty args) w k):EvRun P (Builtin.append_ #[T,T'] ty args) w k:=by
 obtain ⟨e,sz,bs⟩:=q;obtain ⟨e',sz',bs'⟩:=q';obtain ⟨h1,inf,hinf,_,_⟩:=hτ.slcs T e sz bs hs;have h2:=(hτ.slcs T' e' sz' bs' hs').1;unfold EvRun at h ⊢;obtain ⟨v,w',hr,hk⟩:=h;refine ⟨v,w',?_,hk⟩;rw [<- hr];unfold Builtin.append_;rcases args with ⟨_ | ⟨a,_ | ⟨b,r⟩⟩⟩
 ·rfl
 ·rfl
 ·cases a <;> simp [run_underlying h1,run_underlying h2,sizeOf,typeInfo,hinf]
section
variable {C:Mem} {w:World}
theorem qv' (hS:Sub C w) {l m:List (List Nd × List Nd)} {vl vm:Value} (hl:SV rBd C l vl) (hm:SV rBd C m vm) (h0:0 < m.length) (hll:l.length <= 1000) (hml:m.length <= 1000) :
  CC 74 #[vl,vm] w (fun e w'=>(∃ v,e = .returned v /\ SV rBd (Cn C w w') (l ++ m) v) /\ Kp [] w w'):=by
 refine oF Tryz.func74 ?_;obtain ⟨al,cl,rfl,hl1,hl2⟩:=hl;obtain ⟨am,cm,rfl,hm1,hm2⟩:=hm;refine cO (args:=[_,_]) 9 [.tmp 4] τok Tryz.func74 ?_;refine ab' (sf' (R:=rBd) rfl (C:=C) l al cl hl1 hl2) ?_;rintro e w1 ⟨⟨a1,rfl,hc1⟩,hk1⟩;refine xk' τok rfl rfl ?_;refine nz' τok rfl rfl (by decide) (R:=rBd) (C:=C) (hS.tr hk1) hc1 hm1 h0 (by omega) (by unfold maxLen; omega) (by omega) fun v' w2 hv' hk2=>?_;have hv1:=hv'.one;exact ⟨⟨v',rfl,hv'.mono fun b o v h=>h.elim .inl fun h=>.inr ⟨KQ hk1.size h.1,h.2⟩⟩,hk1.tr hk2⟩
end
def JudC (C:Mem) (w:World) (bj:Nat) (B:BoT) (n:Nat):Prop :=
 ∃ v1 v2 v3,Bk w.heap bj [iV B.vars,v1,v2,iV B.nat,v3,iV (n:Int)] 118 /\ SV rOr C B.orders v1 /\ SV rEn C B.ents v2 /\ SV rPr C B.prims v3
theorem JudC.mono {C D:Mem} {w:World} {bj:Nat} {B:BoT} {n:Nat} (h:JudC C w bj B n) (hc:∀ b o v,C b o v -> D b o v):JudC D w bj B n:=by
 obtain ⟨v1,v2,v3,h0,h1,h2,h3⟩:=h;exact ⟨v1,v2,v3,h0,h1.mono hc,h2.mono hc,h3.mono hc⟩
theorem JudC.kp {C:Mem} {w w':World} {bj:Nat} {B:BoT} {n:Nat} (h:JudC C w bj B n) {X:List Nat} (k:Kp X w w') (hb:bj ∉ X):JudC C w' bj B n:=by
 obtain ⟨v1,v2,v3,h0,h1,h2,h3⟩:=h;exact ⟨v1,v2,v3,h0.kp k hb,h1,h2,h3⟩
theorem JudC.tr {X:List Nat} {w w':World} {bj:Nat} {B:BoT} {n:Nat} (h:JudC (Im X w) w bj B n) (k:Kp [] w w'):JudC (Im X w') w' bj B n:=(h.mono fun _ _ _ h=>h.tr k).kp k (by simp)
def JdP {α:Type} (D:World -> α -> Value -> Prop) (X:List Nat) (w:World) (bj:Nat) (B:BoT) (r:Except Int (α × Nat)) (e:Ending) (w':World):Prop :=
 (match r with
  | .ok q=>∃ u,e = .returned u /\ D w' q.1 u /\ JudC (Im X w') w' bj B q.2
  | .error er=>e = .panicked (dm' er)) /\ Kp [bj] w w'
def DSp (X:List Nat) (w':World) (x:Tr) (u:Value):Prop:=∃ h a,u = .tuple #[h,a] /\ TmV (Im X w') (headT x) h /\ TmsV (Im X w') (argsT x) a
section
variable {B:BoT} {cx:Ctx} {X:List Nat} {w:World} {bj:Nat} {n:Nat}
theorem fB' (hB:GoodB B) (hcx:CxOk B cx) (hcl:cx.length <= 260) (hX:XL X w) (hbj:bj ∈ X) (hJ:JudC (Im X w) w bj B n) (hn:n <= 100000) {x:Tr} (hx:Ft (QB B) (cx.length:Int) x) {vc v:Value} (hc:SV rBd (Im X w) (cx.map bdR) vc) (hv:TmV (Im X w) x v) :
  CC 77 #[pt bj,vc,v] w (JdP (DSp X) X w bj B (eg' B cx x n)):=by
 refine oF Tryz.func77 ?_;obtain ⟨RES,hRES⟩:∃ r,eg' B cx x n = r:=⟨_,rfl⟩
 rw [hRES];unfold eg' at hRES;obtain ⟨v1,v2,v3,hJb,hO,hE,hP⟩:=hJ;have hvv:=hv;obtain ⟨av,cv,rfl,_,_⟩:=hvv;have hCC:=hc;obtain ⟨ac,cc,rfl,_,_⟩:=hCC;have hlm:(cx.map bdR).length = cx.length:=by simp
 refine cO (args:=[_,_,_]) 37 [.tmp 6,.tmp 7] τok Tryz.func77 ?_
 by_cases g:256 < cx.length
 ·rw [if_pos g] at hRES
  subst hRES;refine ab' (qu' ac _ cc (by omega) w) ?_;rintro e w1 ⟨rfl,hk1⟩;exact ⟨rfl,hk1.weak (by simp)⟩
 rw [if_neg g] at hRES;refine ab' (qt' ac _ cc (by omega) w) ?_;rintro e w1 ⟨⟨v0,rfl⟩,hk1⟩;have hJ1:=hJb.kp hk1 (by simp);have tr1:∀ b o v,Im X w b o v -> Im X w1 b o v:=fun b o v h=>h.tr hk1;have hX1:=xU hX hk1;refine aq' τok (fun z=>Kp [] w1 z) ?_;refine rV τok (rg 0 10) 8 (mR 18 10) (kQd w1) ?_;refine dQ' [iV B.vars,v1,v2,iV B.nat,v3] rfl (fun j u hj=>by
  refine hJ1.cl ?_;rw [KW]
  match j,hj with
  | 0,hj=>exact hj
  | 1,hj=>exact hj
  | 2,hj=>exact hj
  | 3,hj=>exact hj
  | 4,hj=>exact hj
  | j + 5,hj=>cases hj) ?_
 refine lk hJ1 ?_;refine nV τok 10 7 (mR 18 11) ?_;refine ab' (nt' (w:=(dr w1)) (fuel:=(n:Int)) hB hcx (by omega) hX1 hx ⟨v1,v2,v3,rfl,hO.mono tr1,hE.mono tr1,hP.mono tr1⟩ (hc.mono tr1) (hv.mono tr1)) ?_;rintro e w2 ⟨he,hk2⟩;have hk2:Kp [] w1 w2:=hk2.rd;have k02:=hk1.tr hk2;cases hr:whnfTop B cx x (n:Int) with
 | error er =>
  rw [hr] at he hRES;subst hRES;have her:=hI' _ _ _ _ _ hr;subst he;refine ⟨.inl hk2,?_⟩;refine rV τok (rg 11 7) 0 (mR 18 18) hk2 ?_;refine dV ?_;refine ab' (aM' er (by omega) w2) ?_;rintro e w3 ⟨rfl,hk3⟩;exact ⟨rfl,(k02.tr hk3).weak (by simp)⟩
 | ok q =>
  rw [hr] at he hRES;subst hRES;obtain ⟨u,rfl,hu⟩:=he;have hq:=nA' hB hcx (by omega) hx hr;have hq2:=iZ' hr;have hu':=hu;obtain ⟨au,cu,rfl,_,_⟩:=hu';refine ⟨.inl hk2,?_⟩;refine rV τok (rg 11 7) 0 (mR 18 18) hk2 ?_;refine dV ?_;refine ab' (ih' w2) ?_;rintro e w3 ⟨⟨v5,rfl⟩,hk3⟩;have k03:=k02.tr hk3;refine st (b:=bj) (o:=5) (hJb.kp k03 (by simp)) (by simp) rfl fun w4 h4 hs4 hk4=>?_;have h4:Bk w4.heap bj [iV B.vars,v1,v2,iV B.nat,v3,iV (q.2:Int)] 118:=h4;have k04:Kp [bj] w w4:=(k03.weak (by simp)).tq hk4;have k24:Kp [bj] w2 w4:=(hk3.weak (by simp)).tq hk4;refine ab' (jM' (Im.sub X w4) (fun _ _ _ h=>h.hold) hq.1 (hu.mono (Im.kb k24 hbj))) ?_;rintro e w5 ⟨h5,z5,rfl,hh5,hz5,hk5⟩;have hX4:=xU hX k04;have k05:Kp [bj] w w5:=k04.tr hk5;have up:=Im.kb k05 hbj;have hh6:=hh5.tv hX4;have hz6:=hz5.tv hX4;have o1:=(TmV.sv.1 hh6).one;have o2:=(TmsV.sv.1 hz6).one;exact ⟨⟨_,rfl,⟨h5,z5,rfl,hh6,hz6⟩,v1,v2,v3,h4.kp hk5 (by simp),hO.mono up,hE.mono up,hP.mono up⟩,k05⟩
theorem kc' (hB:GoodB B) (hcx:CxOk B cx) (hcl:cx.length <= 260) (hX:XL X w) (hbj:bj ∈ X) (hJ:JudC (Im X w) w bj B n) (hn:n <= 100000) {x y:Tr} (hx:Ft (QB B) (cx.length:Int) x) (hy:Ft (QB B) (cx.length:Int) y) {vc v v':Value} (hc:SV rBd (Im X w) (cx.map bdR) vc) (hv:TmV (Im X w) x v) (hv':TmV (Im X w) y v') (u:Bool) :
  CC 102 #[pt bj,vc,v,v',.bool u] w (JdP (fun _ b z=>z = .bool b) X w bj B (dv' B cx x y u n)):=by
 refine oF Tryz.func102 ?_;obtain ⟨RES,hRES⟩:∃ r,dv' B cx x y u n = r:=⟨_,rfl⟩
 rw [hRES];unfold dv' at hRES;obtain ⟨v1,v2,v3,hJb,hO,hE,hP⟩:=hJ;obtain ⟨av,cv,rfl,_,_⟩:=id hv;obtain ⟨av',cv',rfl,_,_⟩:=id hv';obtain ⟨ac,cc,rfl,_,_⟩:=id hc;have hlm:(cx.map bdR).length = cx.length:=by simp
 refine cO (args:=[_,_,_,_,_]) 40 [.tmp 10] τok Tryz.func102 ?_
 by_cases g:256 < cx.length
 ·rw [if_pos g] at hRES
  subst hRES;refine ab' (qu' ac _ cc (by omega) w) ?_;rintro e w1 ⟨rfl,hk1⟩;exact ⟨rfl,hk1.weak (by simp)⟩
 rw [if_neg g] at hRES;refine ab' (qt' ac _ cc (by omega) w) ?_;rintro e w1 ⟨⟨v0,rfl⟩,hk1⟩;have hJ1:=hJb.kp hk1 (by simp);have tr1:∀ b o v,Im X w b o v -> Im X w1 b o v:=fun b o v h=>h.tr hk1;have hX1:=xU hX hk1;refine aq' τok (fun z=>Kp [] w1 z) ?_;refine rV τok (rg 0 12) 8 (mR 20 12) (kQd w1) ?_;refine dQ' [iV B.vars,v1,v2,iV B.nat,v3] rfl (fun j u hj=>by
  refine hJ1.cl ?_;rw [KW]
  match j,hj with
  | 0,hj=>exact hj
  | 1,hj=>exact hj
  | 2,hj=>exact hj
  | 3,hj=>exact hj
  | 4,hj=>exact hj
  | j + 5,hj=>cases hj) ?_
 refine lk hJ1 ?_;refine nV τok 12 7 (mR 20 13) ?_;refine ab' (on' (w:=(dr w1)) (fuel:=(n:Int)) hB hcx hcl hX1 hx hy ⟨v1,v2,v3,rfl,hO.mono tr1,hE.mono tr1,hP.mono tr1⟩ (hc.mono tr1) (hv.mono tr1) (hv'.mono tr1) u) ?_;rintro e w2 ⟨he,hk2⟩;have hk2:Kp [] w1 w2:=hk2.rd;have k02:=hk1.tr hk2;cases hr:hT' B cx x y (n:Int) u with
 | error er =>
  rw [hr] at he hRES;subst hRES;obtain ⟨her,rfl⟩:=he;refine ⟨.inl hk2,?_⟩;refine rV τok (rg 13 7) 0 (mR 20 20) hk2 ?_;refine dV ?_;refine ab' (aM' er her w2) ?_;rintro e w3 ⟨rfl,hk3⟩;exact ⟨rfl,(k02.tr hk3).weak (by simp)⟩
 | ok q =>
  rw [hr] at he hRES;subst hRES;subst he;refine ⟨.inl hk2,?_⟩;refine rV τok (rg 13 7) 0 (mR 20 20) hk2 ?_;refine dV ?_;refine ab' (ih' w2) ?_;rintro e w3 ⟨⟨v5,rfl⟩,hk3⟩;have k03:=k02.tr hk3;refine st (b:=bj) (o:=5) (hJb.kp k03 (by simp)) (by simp) rfl fun w4 h4 hs4 hk4=>?_;have h4:Bk w4.heap bj [iV B.vars,v1,v2,iV B.nat,v3,iV (q.2:Int)] 118:=h4;have k04:Kp [bj] w w4:=(k03.weak (by simp)).tq hk4;have up:=Im.kb k04 hbj;exact ⟨⟨_,rfl,rfl,v1,v2,v3,h4,hO.mono up,hE.mono up,hP.mono up⟩,k04⟩
end
theorem lj' {C:Mem} {w:World} (hS:Sub C w) (kind:Int) (hkd:I64 kind) (l:List Atom) (a:Option Addr) (c:Nat) (hl:Sl rAt C a l) (hll:l.length <= 1000) :
  CC 69 #[iV kind,.slice a l.length c] w (fun e w'=>(∃ v,e = .returned v /\ IsTm (sortX kind l) w w' v) /\ Kp [] w w'):=by
 refine oF Tryz.func69 ?_;have hrow:row (sortX kind l) = ⟨2,kind,(l.length:Int)⟩ :: l.map fun a=>⟨3,a.var,a.add⟩:=by
  unfold sortX;simp only [row]
  congr 1
  have:∀ (l:List Atom),rows (l.map fun a=>(.mk ⟨3,a.var,a.add⟩ []:Tr)) = l.map fun a=>⟨3,a.var,a.add⟩:=by
   intro l
   induction l with
   | nil=>rfl
   | cons b l ih=>simp [rows,row,ih]
  exact this l
 have hrl:(row (sortX kind l)).length = l.length + 1:=by rw [hrow]; simp
 refine cO (args:=[_,_]) 29 [.tmp 4] τok Tryz.func69 ?_;refine fill [iV 2,iV kind,iV (l.length:Int)] rfl ?_;refine new fun b1 w1 hb1 h1 hs1 hk1=>?_;have hO1:Own rNd 42 w.heap.size w1 (.slice (some ⟨b1,0,none⟩) 1 1) [⟨2,kind,(l.length:Int)⟩] :=
  ⟨⟨[[iV 2,iV kind,iV (l.length:Int)]],mR' h1 (by omega) rfl (by decide),⟨⟨rfl,⟨by simp,by simp⟩,hkd,⟨by simp only; omega,by simp only; omega⟩⟩,trivial⟩⟩,hk1.size⟩
 refine lp τok (σ:=Nat × Value) (fun q=>[(5,q.2),(13,.slice a l.length c),(14,iV (l.length:Int)),(15,iV (q.1:Int))])
  (fun q w'=>q.1 <= l.length /\ Own rNd 42 w.heap.size w' q.2 (⟨2,kind,(l.length:Int)⟩ :: (l.map fun a=>⟨3,a.var,a.add⟩).take q.1) /\ Kp [] w w') (fun q=>l.length - q.1) (0,.slice (some ⟨b1,0,none⟩) 1 1) rfl
  ⟨rfl,rfl,rfl,rfl,trivial⟩ ⟨KV _,hO1,hk1⟩ ?_
 rintro ⟨i,v1⟩ w2 ⟨hi,hO,hk2⟩;simp only at hi hO;refine ac' (fun g=>?_) (fun g=>?_)
 ·have g:(i:Int) < l.length:=g
  obtain ⟨x,hx,_⟩:=af' (l:=l) (k:=i) (by omega);obtain ⟨b,o,rfl,c1,c2,i1,i2⟩:=sm' hl hx;have hlm:(l.map fun a=>(⟨3,a.var,a.add⟩:Nd))[i]? = some ⟨3,x.var,x.add⟩:=by rw [JX,hx]; rfl
  refine ix i rfl (by omega) ?_;refine ldN [iV x.var,iV x.add] rfl (fun j u hj=>hS.tr hk2 _ _ _ (by
   match j,hj with
   | 0,hj=>obtain rfl:=JB hj; exact c1
   | 1,hj=>obtain rfl:=JB hj; exact c2
   | j + 2,hj=>cases hj)) ?_
  refine new fun b5 w3 hb5 h5 hs3 hk3=>?_;refine stN (vs:=[iV x.var,iV x.add]) h5 rfl (by simp [Value.oneCell']) fun w4 h5 hs4 hk4=>?_;have k24:=hk3.newSt hb5 hk4;refine lb h5 ?_;refine lb h5 ?_;refine fill [iV 3,iV x.var,iV x.add] rfl ?_;refine new fun b6 w5 hb6 h6 hs5 hk5=>?_;have k25:=k24.tr hk5;have hlen5:((⟨2,kind,(l.length:Int)⟩:Nd) :: (l.map fun a=>(⟨3,a.var,a.add⟩:Nd)).take i).length = i + 1:=by simp; omega
  refine (hO.kp k25).ap1 τok rfl rfl (by decide) ⟨3,x.var,x.add⟩ [iV 3,iV x.var,iV x.add] ⟨rfl,⟨by simp,by simp⟩,i1,i2⟩ (bZ h6) (by rw [hlen5]; omega) (by rw [hlen5]; unfold maxLen; omega) fun v2 w6 hO6 hk6 _=>?_;refine i6 ?_;refine ⟨(i + 1,v2),by simp only; omega,rfl,⟨rfl,rfl,rfl,rfl,trivial⟩,by show i + 1 <= _; omega,?_,(hk2.tr k25).own hk6 (hO.kp k25)⟩;rw [ak' hlm];exact hO6
 ·have g:¬ (i:Int) < l.length:=g
  rw [JG (by simp; omega),<- hrow] at hO;exact ⟨⟨v1,rfl,Own.isTm hO (by rw [hrl]; omega)⟩,hk2⟩
theorem JdP.cs {α:Type} {D:World -> α -> Value -> Prop} {X:List Nat} {w:World} {bj:Nat} {B:BoT} {r:Except Int (α × Nat)} {e:Ending} {w':World} (h:JdP D X w bj B r e w') :
  (∃ er,r = .error er /\ e = .panicked (dm' er) /\ Kp [bj] w w') \/ ∃ q u,r = .ok q /\ e = .returned u /\ D w' q.1 u /\ JudC (Im X w') w' bj B q.2 /\ Kp [bj] w w':=by
 obtain ⟨h,hk⟩:=h;cases r with
 | error er=>exact .inl ⟨er,rfl,h,hk⟩
 | ok q =>
  obtain ⟨u,rfl,hD,hJ⟩:=h;exact .inr ⟨q,u,rfl,rfl,hD,hJ,hk⟩
theorem Im.cn {X:List Nat} {w w':World} (hX:XL X w) (k:Kp [] w w'):∀ b o v,Cn (Im X w) w w' b o v -> Im X w' b o v:=fun b o v h=>h.elim (fun h=>h.tr k) fun h=>Im.of_new hX h
def Mt (k:Nat) (t:Tr):Prop:=∀ m ∈ row t,m.op = 11 -> m.a < (k:Int)
def ow' (B:BoT) (g:Nat) (rc:RcJ):Prop:=∀ (X:List Nat) (w:World) (bj:Nat) (cx:Ctx) (k:Nat) (t:Tr) (n:Nat) (vc v:Value),(XL X w) -> bj ∈ X -> CxOk B cx -> cx.length <= 260 -> JudC (Im X w) w bj B n -> n <= 100000 ->
 Ft (QB B) (cx.length:Int) t -> Mt k t -> k * 5000 + (row t).length <= g -> SV rBd (Im X w) (cx.map bdR) vc -> TmV (Im X w) t v ->
 CC 37 #[pt bj,vc,v] w (JdP (fun w' x u=>TmV (Im X w') x u) X w bj B (rc cx t n))
def DSo (X:List Nat) (w':World) (q:Int × List Atom) (u:Value):Prop:=∃ a c,u = .tuple #[iV q.1,.slice a q.2.length c] /\ Sl rAt (Im X w') a q.2
section
variable {B:BoT} {g k:Nat} {rc:RcJ} {cx:Ctx} {X:List Nat} {w:World} {bj:Nat} {n:Nat}
theorem eX' (hB:GoodB B) (hr:gh' B rc) (hrc:ow' B g rc) (hX:XL X w) (hbj:bj ∈ X) (hcx:CxOk B cx) (hcl:cx.length <= 260) (hJ:JudC (Im X w) w bj B n) (hn:n <= 100000) {t:Tr} (ht:Ft (QB B) (cx.length:Int) t) (hm:Mt k t) (hg:k * 5000 + (row t).length <= g)
  {vc v:Value} (hc:SV rBd (Im X w) (cx.map bdR) vc) (hv:TmV (Im X w) t v) :
  CC 73 #[pt bj,vc,v] w (JdP (DSo X) X w bj B (dJ' B rc cx t n)):=by
 refine oF Tryz.func73 ?_;obtain ⟨RES,hRES⟩:∃ r,dJ' B rc cx t n = r:=⟨_,rfl⟩
 rw [hRES];unfold dJ' at hRES;obtain ⟨av,cv,rfl,_,_⟩:=id hv;obtain ⟨ac,cc,rfl,_,_⟩:=id hc;refine cO (args:=[_,_,_]) 37 [.tmp 6,.tmp 7] τok Tryz.func73 ?_;refine ab' (hrc X w bj cx k t n _ _ hX hbj hcx hcl hJ hn ht hm hg hc hv) ?_;rintro e w1 he;rcases he.cs with ⟨er,hq,rfl,hk1⟩ | ⟨q,u,hq,rfl,hu,hJ1,hk1⟩
 ·rw [hq] at hRES
  obtain rfl:.error er = RES:=hRES;exact ⟨rfl,hk1⟩
 rw [hq] at hRES;simp only [bdJ] at hRES;have hqf:=hr.ft _ _ _ _ hcx hcl ht hq;have hqn:=hr.le _ _ _ _ hq;have hX1:=xU hX hk1;obtain ⟨au,cu,rfl,_,_⟩:=id hu;refine ab' (fB' hB hcx hcl hX1 hbj hJ1 (by omega) hqf (hc.mono (Im.kb hk1 hbj)) hu) ?_;rintro e w2 he;rcases he.cs with ⟨er,hz,rfl,hk2⟩ | ⟨z,u,hz,rfl,hu,hJ2,hk2⟩
 ·rw [hz] at hRES
  obtain rfl:.error er = RES:=hRES;exact ⟨rfl,hk1.tq hk2⟩
 rw [hz] at hRES;simp only [bdJ] at hRES;have k02:Kp [bj] w w2:=hk1.tq hk2;obtain ⟨uh,ua,rfl,hh,ha⟩:=hu;obtain ⟨_,_,hzf⟩:=eW' hB hcx hqf hz;have hh':=hh;obtain ⟨bh,oh,ch,rfl,hi1,hi2,hi3,hhc⟩:=hh.hd;obtain ⟨aa,ca,rfl,_,_⟩:=id ha;refine ix 0 rfl (ag' _) ?_;refine ld (Im.sub X w2 _ _ _ (by simpa using hhc 0 _ rfl)).cell ?_;refine ac' (fun g1=>?_) (fun g1=>?_)
 ·have g1:(headT z.1).n.op ≠ 2:=g1
  rw [if_pos (.inl g1)] at hRES;subst hRES;refine ab' (aM' 11 (by decide) w2) ?_;rintro e w3 ⟨rfl,hk3⟩;exact ⟨rfl,k02.tr hk3⟩
 have g1:¬ (headT z.1).n.op ≠ 2:=g1;refine ac' (fun g2=>?_) (fun g2=>?_)
 ·have g2:(0:Int) < ((argsT z.1).length:Int):=g2
  rw [if_pos (.inr (by omega))] at hRES;subst hRES;refine ab' (aM' 11 (by decide) w2) ?_;rintro e w3 ⟨rfl,hk3⟩;exact ⟨rfl,k02.tr hk3⟩
 have g2:¬ (0:Int) < ((argsT z.1).length:Int):=g2;rw [if_neg (by omega)] at hRES;subst hRES;refine aq' τok (fun z=>Kp [] w2 z) ?_;refine rV τok (rg 0 5) 3 (mR 8 5) (kQd w2) ?_;refine ix 0 rfl (ag' _) ?_;refine ldK (Im.sub X w2 _ _ _ (by simpa using hhc 1 _ rfl)) ?_;refine nV τok 5 2 (mR 8 6) ?_;refine ab' (eA' (C:=Im X w2) (w:=(dr w2)) (Im.sub X w2) hzf.head (by omega) hh') ?_;rintro e w3 ⟨al,cl,rfl,hl,hk3⟩;have hk3:Kp [] w2 w3:=hk3.rd;refine ⟨.inl hk3,?_⟩;refine rV τok [6,7] 0 (mR 8 8) hk3 ?_;refine dV ?_;have hX2:=xU hX k02;exact ⟨⟨_,rfl,⟨al,cl,rfl,hl.mono fun b o v h=>Im.of_new hX2 h⟩,hJ2.tr hk3⟩,k02.tr hk3⟩
theorem cR' (hB:GoodB B) (hr:gh' B rc) (hrc:ow' B g rc) (hX:XL X w) (hbj:bj ∈ X) (hcx:CxOk B cx) (hcl:cx.length <= 260) (hJ:JudC (Im X w) w bj B n) (hn:n <= 100000) {t ty:Tr} (ht:Ft (QB B) (cx.length:Int) t) (hm:Mt k t) (hg:k * 5000 + (row t).length <= g) (hty:Ft (QB B) (cx.length:Int) ty)
  {vc v vt:Value} (hc:SV rBd (Im X w) (cx.map bdR) vc) (hv:TmV (Im X w) t v) (hvt:TmV (Im X w) ty vt) :
  CC 78 #[pt bj,vc,v,vt] w (JdP (fun _ _ _=>True) X w bj B (ct' B rc cx t ty n)):=by
 refine oF Tryz.func78 ?_;obtain ⟨RES,hRES⟩:∃ r,ct' B rc cx t ty n = r:=⟨_,rfl⟩
 rw [hRES];unfold ct' at hRES;obtain ⟨av,cv,rfl,_,_⟩:=id hv;obtain ⟨at_,ct_,rfl,_,_⟩:=id hvt;obtain ⟨ac,cc,rfl,_,_⟩:=id hc;refine cO (args:=[_,_,_,_]) 18 [] τok Tryz.func78 ?_;refine ab' (hrc X w bj cx k t n _ _ hX hbj hcx hcl hJ hn ht hm hg hc hv) ?_;rintro e w1 he;rcases he.cs with ⟨er,hq,rfl,hk1⟩ | ⟨q,u,hq,rfl,hu,hJ1,hk1⟩
 ·rw [hq] at hRES
  obtain rfl:.error er = RES:=hRES;exact ⟨rfl,hk1⟩
 rw [hq] at hRES;simp only [bdJ] at hRES;have hqf:=hr.ft _ _ _ _ hcx hcl ht hq;have hqn:=hr.le _ _ _ _ hq;have hX1:=xU hX hk1;obtain ⟨au,cu,rfl,_,_⟩:=id hu;have up:=Im.kb hk1 hbj;refine ab' (kc' hB hcx hcl hX1 hbj hJ1 (by omega) hqf hty (hc.mono up) hu (hvt.mono up) true) ?_;rintro e w2 he;rcases he.cs with ⟨er,hz,rfl,hk2⟩ | ⟨z,u,hz,rfl,hu,hJ2,hk2⟩
 ·rw [hz] at hRES
  obtain rfl:.error er = RES:=hRES;exact ⟨rfl,hk1.tq hk2⟩
 rw [hz] at hRES;simp only [bdJ] at hRES;have k02:Kp [bj] w w2:=hk1.tq hk2;subst hu;obtain ⟨b,m⟩:=z;cases b with
 | true =>
  rw [if_pos rfl] at hRES;subst hRES;exact ⟨⟨_,rfl,trivial,hJ2⟩,k02⟩
 | false =>
  rw [if_neg (by simp)] at hRES;subst hRES;refine ab' (aM' 13 (by decide) w2) ?_;rintro e w3 ⟨rfl,hk3⟩;exact ⟨rfl,k02.tr hk3⟩
end
def PaP (C:Mem) (w:World) (r:Except Int Tr) (e:Ending) (w':World):Prop :=
 (match r with
  | .ok z=>∃ u,e = .returned u /\ TmV (Cn C w w') z u
  | .error er=>e = .panicked (dm' er)) /\ Kp [] w w'
theorem ms' {Q:Nd -> Prop} (hQ:Qk Q) {C:Mem} {w:World} (hS:Sub C w) (hold:∀ b o v,C b o v -> b < w.heap.size) {N:Int} (hN0:0 <= N) (hN:N <= 90000) {qs:List Tr} (hq:∀ y ∈ qs,Ft Q N y) (hql:qs.length <= 1000) {more:Nat} (hmo:more <= 1000) {t:Tr} (ht:Ft Q (N + qs.length + more) t)
  {vq vt:Value} (hvq:TmsV C qs vq) (hvt:TmV C t vt) :
  CC 134 #[vt,vq,iV (more:Int)] w (PaP C w (br' qs more qs.length t)):=by
 refine oF Tryz.func134 ?_;obtain ⟨RES,hRES⟩:∃ r,br' qs more qs.length t = r:=⟨_,rfl⟩
 rw [hRES];obtain ⟨aq,cq,rfl,_,_⟩:=id hvq;obtain ⟨at_,ct_,rfl,_,_⟩:=id hvt;refine cO (args:=[_,_,_]) 31 [.tmp 6] τok Tryz.func134 ?_;refine i6 ?_;refine lp τok (σ:=Nat × Tr × Value) (fun q=>[(0,q.2.2),(1,.slice aq qs.length cq),(2,iV (more:Int)),(7,iV ((q.1:Int) - 1))])
  (fun q w'=>q.1 <= qs.length /\ Ft Q (N + q.1 + more) q.2.1 /\ TmV (Cn C w w') q.2.1 q.2.2 /\ Kp [] w w' /\ br' qs more q.1 q.2.1 = RES) (fun q=>q.1) (qs.length,t,_) rfl
  ⟨rfl,rfl,rfl,rfl,trivial⟩ ⟨KJ _,ht,hvt.mono fun _ _ _ h=>.inl h,Kp.refl _ _,hRES⟩ ?_
 clear hRES
 rintro ⟨j,z,uz⟩ w18 ⟨hj,hzF,huz,k018,hres⟩;simp only at hj hzF huz hres;refine ac' (fun g=>?_) (fun g=>?_)
 ·have g:(0:Int) <= (j:Int) - 1:=g
  obtain ⟨jj,rfl⟩:∃ jj,j = jj + 1:=⟨j - 1,by omega⟩
  have e0:((jj + 1:Nat):Int) - 1 = (jj:Int):=by omega
  rw [e0];simp only [br'] at hres;obtain ⟨p,hp,_⟩:=af' (l:=qs) (k:=jj) (by omega);have egd:qs.getD jj (varX 0) = p:=by rw [List.getD_eq_getElem?_getD,hp]; rfl
  rw [egd] at hres;obtain ⟨bq,oq,cq',e7,zp,hzp,hzpT⟩:=hvq.get hp;injection e7 with q1 q2 q3
  subst q1 q3;have hpF:=hq p (JQ hp);have hlF:=hpF.lift hQ (b:=(jj:Int)) (by omega) (by omega) (by omega);obtain ⟨auz,cuz,rfl,_,_⟩:=id huz;refine ix jj rfl (by omega) ?_;refine ldC (hS.tr k018) hzp ?_;refine ab' (dZ' (hS.tr k018) (Kp.hold k018 hold) hpF (by omega) hzpT (b:=(jj:Int)) (by omega)) ?_;rintro e w19 ⟨ul,rfl,hul,hk19⟩;have k019:=k018.tr hk19;have hul':TmV (Cn C w w19) (ax' p jj 0) ul:=hul.cn k018.size;obtain ⟨aul,cul,rfl,_,_⟩:=id hul';refine ab' (aG' _ ⟨_,_,_,rfl⟩ w19) ?_;rintro e w20 ⟨rfl,hk20⟩;have k1920:=hk20;have k020:=k019.tr hk20;refine ab' (ic' (Q:=Q) (N:=N + jj) (v:=more) (Cn.sub hS k020) (fun b o v h=>Cn.hold hold k020 h) (hzF.mono (by omega)) hlF (by omega) (huz.mono fun _ _ _ h=>h.up (hk19.tr hk20)) (hul'.mono fun _ _ _ h=>h.up hk20) (by omega)) ?_;rintro e w21 ⟨he,hk21⟩;have k021:=k020.tr hk21;cases hs:az' z (ax' p jj 0) more with
  | error er =>
   rw [hs] at he hres;obtain ⟨rfl,her⟩:=he;have hres:(.error er:Except Int Tr) = RES:=hres;subst hres;refine ab' (bq' _ ⟨_,_,_,rfl⟩ er her w21) ?_;rintro e w22 ⟨rfl,hk22⟩;exact ⟨rfl,k021.tr hk22⟩
  | ok y =>
   rw [hs] at he hres;obtain ⟨uy,rfl,huy⟩:=he;have hres:br' qs more jj y = RES:=hres;have hyF:=aI' hQ (N:=N + jj) (v:=more) (hzF.mono (by omega)) hlF (by omega) (by omega) (by omega) (by omega) hs;obtain ⟨auy,cuy,rfl,_,_⟩:=id huy;refine ab' (aG' _ ⟨_,_,_,rfl⟩ w21) ?_;rintro e w22 ⟨rfl,hk22⟩;refine i6 ?_;exact ⟨(jj,y,_),by simp only; omega,rfl,⟨rfl,rfl,rfl,rfl,trivial⟩,by show jj <= _; omega,hyF.mono (by simp only; omega),huy.mono fun b o v h=>Cn.up hk22 (Cn.two (D:=C) hk21 k020.size h),k021.tr hk22,hres⟩
 ·have g:¬ (0:Int) <= (j:Int) - 1:=g
  obtain rfl:j = 0:=by omega
  simp only [br'] at hres;subst hres;obtain ⟨auz,cuz,rfl,_,_⟩:=id huz;exact ⟨⟨_,rfl,huz⟩,k018⟩
end Go.Proofs.YtbnhfnfgabkelaaGreat
