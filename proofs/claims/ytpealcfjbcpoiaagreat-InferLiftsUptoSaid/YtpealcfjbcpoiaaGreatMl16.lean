import Derived.Test.YtpealcfjbcpoiaaGreatMl15
set_option linter.unusedVariables false
set_option linter.unusedSimpArgs false
set_option maxRecDepth 100000
namespace Go.Proofs.YtpealcfjbcpoiaaGreat
open Go.Wx Cd Tm Lv
def bdJ {α β:Type} (m:Except Int (α × Nat)) (k:α -> Nat -> Except Int (β × Nat)):Except Int (β × Nat):=match m with
 | .error e=>.error e
 | .ok q=>k q.1 q.2
def puJ {α:Type} (m:Except Int α) (n:Nat):Except Int (α × Nat):=match m with
 | .error e=>.error e
 | .ok x=>.ok (x,n)
def dM' (B:BoT) (cx:Ctx) (t:Tr) (n:Nat):Except Int (Tr × Nat):=if 256 < cx.length then .error 5 else aM' B cx t (n:Int)
def dI' (B:BoT) (cx:Ctx) (x y:Tr) (u:Bool) (n:Nat):Except Int (Bool × Nat):=if 256 < cx.length then .error 5 else hA' B cx x y (n:Int) u
abbrev RcJ:=Ctx -> Tr -> Nat -> Except Int (Tr × Nat)
def et' (kind:Int) (l:List Atom):Tr:=.mk ⟨2,kind,(l.length:Int)⟩ (l.map fun a=>.mk ⟨3,a.var,a.add⟩ [])
def dY' (B:BoT) (rc:RcJ) (cx:Ctx) (t:Tr) (n:Nat):Except Int ((Int × List Atom) × Nat) :=
 bdJ (rc cx t n) fun ty n=>bdJ (dM' B cx ty n) fun z n=>if (headT z).n.op ≠ 2 \/ 0 < (argsT z).length then .error 11 else .ok (((headT z).n.a,dN' (headT z)),n)
def cY' (B:BoT) (rc:RcJ) (cx:Ctx) (t ty:Tr) (n:Nat):Except Int (Unit × Nat) :=
 bdJ (rc cx t n) fun z n=>bdJ (dI' B cx z ty true n) fun b n=>if b = true then .ok ((),n) else .error 13
def ju' (B:BoT) (a:Int) (ps:List Tr) (i ni:Nat):Except Int Tr :=
 if i < ni then aS' ps (i:Int) ps.length ((qiM B a).getD i (varX 0)) else aH' (.mk ⟨9,a,0⟩ []) (ps.map (fun p=>aq' p ni 0) ++ varsM ni 0)
def hG' (B:BoT) (a:Int) (ps:List Tr) (ni:Nat):Nat -> Nat -> Ctx -> Tr -> Nat -> Except Int (Int × Nat)
 | 0,_,cx,m,n=>bdJ (dM' B cx m n) fun f n=>if (headT f).n.op ≠ 2 \/ 0 < (argsT f).length then .error 16 else .ok ((headT f).n.a,n)
 | k + 1,i,cx,m,n=>bdJ (dM' B cx m n) fun f n=>if (headT f).n.op ≠ 4 \/ 0 < (argsT f).length then .error 16 else
   bdJ (puJ (ju' B a ps i ni) n) fun w n=>bdJ (dI' B cx (kidD (headT f) 0) w false n) fun b n=>if b = true then hG' B a ps ni k (i + 1) (cx ++ [(kidD (headT f) 0,none)]) (kidD (headT f) 1) n else .error 16
def hH' (B:BoT) (cx:Ctx) (a:Int) (ps:List Tr) (m:Tr) (n:Nat):Except Int (Int × Nat):=hG' B a ps (qiM B a).length ((qiM B a).length + 1) 0 cx m n
def lG' (B:BoT) (rc:RcJ):Ctx -> List Tr -> Nat -> Except Int (Bool × Nat)
 | _,[],n=>.ok (true,n)
 | cx,a :: r,n=>bdJ (dY' B rc cx a n) fun q n=>if q.1 ≠ 0 then .ok (false,n) else lG' B rc (cx ++ [(a,none)]) r n
def mO' (ps:List Tr):Ctx:=ps.map fun p=>(p,none)
def dZ' (B:BoT) (rc:RcJ) (a:Int) (n:Nat):Except Int (Bool × Nat) :=
 if (cr' B a).ctors.length = 0 then .ok (true,n) else if 1 < (cr' B a).ctors.length then .ok (false,n) else lG' B rc (mO' (psM B a)) (agM B a 0) n
def aE' (B:BoT) (rc:RcJ) (cx:Ctx) (a:Int) (ps:List Tr) (mo:Tr):Nat -> List Tr -> Nat -> Except Int (Unit × Nat)
 | _,[],n=>.ok ((),n)
 | k,b :: r,n=>bdJ (puJ (bZ' B a (k:Int) ps mo) n) fun ty n=>bdJ (cY' B rc cx b ty n) fun _ n=>aE' B rc cx a ps mo (k + 1) r n
def ew' (B:BoT) (rc:RcJ) (cx:Ctx) (nd:Nd) (ks:List Tr) (n:Nat):Except Int (Tr × Nat) :=
 let np:=(psM B nd.a).length
 let mo:=ks.getD 0 (varX 0)
 let sc:=ks.getD 1 (varX 0)
 bdJ (rc cx sc n) fun ty n=>bdJ (dM' B cx ty n) fun z n =>
  if (headT z).n.op ≠ 9 \/ (headT z).n.a ≠ nd.a \/ (argsT z).length ≠ np + (qiM B nd.a).length then .error 14
  else if (ks.drop 2).length ≠ (cr' B nd.a).ctors.length then .error 15
  else bdJ (rc cx mo n) fun mt n=>bdJ (hH' B cx nd.a ((argsT z).take np) mt n) fun kind n =>
   bdJ (if (tr (cr' B nd.a).sort).n.a = 0 /\ kind = 1 then dZ' B rc nd.a n else .ok (true,n)) fun s n=>if s = false then .error 17 else
    bdJ (aE' B rc cx nd.a ((argsT z).take np) mo 0 (ks.drop 2) n) fun _ n=>puJ (aH' mo ((argsT z).drop np ++ [sc])) n
def ex' (B:BoT) (rc:RcJ) (cx:Ctx) (t:Tr):Nat -> Nat -> Nat -> Except Int (Unit × Nat)
 | 0,_,n=>.ok ((),n)
 | k + 1,i,n=>bdJ (dY' B rc cx (kidD t (2 * i)) n) fun _ n=>ex' B rc cx t k (i + 1) n
def cK' (B:BoT) (rc:RcJ) (cx:Ctx) (t:Tr) (nb:Nat):Nat -> Nat -> Nat -> Except Int (Unit × Nat)
 | 0,_,n=>.ok ((),n)
 | k + 1,i,n=>bdJ (cY' B rc cx (kidD t (2 * i + 1)) (aq' (kidD t (2 * i)) nb 0) n) fun _ n=>cK' B rc cx t nb k (i + 1) n
def sC' (B:BoT) (rc:RcJ) (cx:Ctx) (t:Tr) (n:Nat):Except Int (Tr × Nat) :=
 bdJ (ex' B rc cx t t.n.b.toNat 0 n) fun _ n=>if dX' B t ≠ 0 then .error (dX' B t) else
  bdJ (cK' B rc (cx ++ aI' t) t t.n.b.toNat t.n.b.toNat 0 n) fun _ n=>.ok (kidD t (2 * t.n.a.toNat),n)
def nz' (t:Tr) (n:Nat):Except Int (Tr × Nat):=if upE (dN' t) 1 ≠ 0 then .error (upE (dN' t) 1) else .ok (et' 1 (upR (dN' t) 1),n)
def jpi (B:BoT) (rc:RcJ) (cx:Ctx) (t:Tr) (n:Nat):Except Int (Tr × Nat) :=
 bdJ (dY' B rc cx (kidD t 0) n) fun p n=>bdJ (dY' B rc (cx ++ [(kidD t 0,none)]) (kidD t 1) n) fun q n =>
  if mI' p.2 q.2 ≠ 0 then .error (mI' p.2 q.2) else .ok (et' q.1 (nN' p.2 q.2),n)
def uA' (B:BoT) (rc:RcJ) (cx:Ctx) (t:Tr) (n:Nat):Except Int (Tr × Nat) :=
 bdJ (dY' B rc cx (kidD t 0) n) fun _ n=>bdJ (rc (cx ++ [(kidD t 0,none)]) (kidD t 1) n) fun z n=>puJ (bq' [kidD t 0] z) n
def tK' (B:BoT) (rc:RcJ) (cx:Ctx) (t:Tr) (n:Nat):Except Int (Tr × Nat) :=
 bdJ (rc cx (kidD t 0) n) fun ty n=>bdJ (dM' B cx ty n) fun z n=>if (headT z).n.op ≠ 4 \/ 0 < (argsT z).length then .error 12 else
  bdJ (cY' B rc cx (kidD t 1) (kidD (headT z) 0) n) fun _ n=>puJ (ay' (kidD (headT z) 1) (kidD t 1) 0) n
def uB' (B:BoT) (rc:RcJ) (cx:Ctx) (t:Tr) (n:Nat):Except Int (Tr × Nat) :=
 bdJ (dY' B rc cx (kidD t 0) n) fun _ n=>bdJ (cY' B rc cx (kidD t 1) (kidD t 0) n) fun _ n =>
  bdJ (rc (cx ++ [(kidD t 0,some (kidD t 1))]) (kidD t 2) n) fun z n=>puJ (ay' z (kidD t 1) 0) n
def cZ' (B:BoT) (rc:RcJ) (cx:Ctx) (t:Tr) (n:Nat):Except Int (Tr × Nat) :=
 if t.n.op = 1 then .ok (aq' (ge' cx t.n.a).1 (t.n.a + 1) 0,n)
 else if t.n.op = 2 then nz' t n
 else if t.n.op = 8 then .ok (tr (cr' B t.n.a).type,n)
 else if t.n.op = 9 then puJ (sB' B t.n.a) n
 else if t.n.op = 10 then puJ (jr' B t.n.a t.n.b) n
 else if t.n.op = 4 then jpi B rc cx t n
 else if t.n.op = 5 then uA' B rc cx t n
 else if t.n.op = 6 then tK' B rc cx t n
 else if t.n.op = 7 then uB' B rc cx t n
 else if t.n.op = 11 then ew' B rc cx t.n (kidsT t) n
 else sC' B rc cx t n
def bO' (B:BoT):Nat -> RcJ
 | 0,_,_,_=>.error 10
 | g + 1,cx,t,n=>cZ' B (bO' B g) cx t n
structure fR' (B:BoT) (rc:RcJ):Prop where
 ft:∀ cx t n q,CxOk B cx -> cx.length <= 260 -> Ft (QB B) (cx.length:Int) t -> rc cx t n = .ok q -> Ft (QB B) (cx.length:Int) q.1
 le:∀ cx t n q,rc cx t n = .ok q -> q.2 <= n
 er:∀ cx t n e,rc cx t n = .error e -> e ≠ 0
theorem an' {α β:Type} {m:Except Int (α × Nat)} {k:α -> Nat -> Except Int (β × Nat)} {q:β × Nat} (h:bdJ m k = .ok q):∃ p,m = .ok p /\ k p.1 p.2 = .ok q:=by
 unfold bdJ at h;split at h
 ·cases h
 ·rename_i p
  exact ⟨p,rfl,h⟩
theorem bdJ_er {α β:Type} {m:Except Int (α × Nat)} {k:α -> Nat -> Except Int (β × Nat)} {e:Int} (h:bdJ m k = .error e):m = .error e \/ ∃ p,m = .ok p /\ k p.1 p.2 = .error e:=by
 unfold bdJ at h;split at h
 ·injection h with h
  subst h;exact .inl rfl
 ·rename_i p
  exact .inr ⟨p,rfl,h⟩
theorem da' {α:Type} {m:Except Int α} {n:Nat} {q:α × Nat} (h:puJ m n = .ok q):m = .ok q.1 /\ q.2 = n:=by
 unfold puJ at h;split at h
 ·cases h
 ·injection h with h
  subst h;exact ⟨rfl,rfl⟩
theorem fS' {α:Type} {m:Except Int α} {n:Nat} {e:Int} (h:puJ m n = .error e):m = .error e:=by
 unfold puJ at h;split at h
 ·injection h with h
  subst h
  rfl
 ·cases h
section
variable {B:BoT} {rc:RcJ} {cx:Ctx}
theorem ei' {t:Tr} {n:Nat} {q:Tr × Nat} (h:dM' B cx t n = .ok q):cx.length <= 256 /\ aM' B cx t (n:Int) = .ok q /\ q.2 <= n:=by
 unfold dM' at h;split at h
 ·cases h
 ·exact ⟨by omega,h,iA' h⟩
theorem fi' {x y:Tr} {u:Bool} {n:Nat} {q:Bool × Nat} (h:dI' B cx x y u n = .ok q):cx.length <= 256 /\ q.2 <= n:=by
 unfold dI' at h;split at h
 ·cases h
 ·refine ⟨by omega,?_⟩
  unfold hA' at h;have:=kz' B _ _ _ _ _ _ _ h;unfold br' at this;omega
theorem ea' (hB:GoodB B) (hcx:CxOk B cx) {x:Tr} {n:Nat} {q:Tr × Nat} (hx:Ft (QB B) (cx.length:Int) x) (h:dM' B cx x n = .ok q):cx.length <= 256 /\ q.2 <= n /\ Ft (QB B) (cx.length:Int) q.1:=by
 obtain ⟨h1,h2,h3⟩:=ei' h;exact ⟨h1,h3,(iC' hB hcx (by omega) hx h2).1⟩
theorem bA' (hB:GoodB B) (hr:fR' B rc) {t:Tr} {n:Nat} {q:(Int × List Atom) × Nat} (h:dY' B rc cx t n = .ok q):cx.length <= 256 /\ q.2 <= n /\ (CxOk B cx -> Ft (QB B) (cx.length:Int) t -> ∃ s,Ft (QB B) (cx.length:Int) s /\ s.n.op = 2 /\ q.1 = (s.n.a,dN' s)):=by
 unfold dY' at h;obtain ⟨p,h1,h⟩:=an' h;obtain ⟨z,h2,h⟩:=an' h;obtain ⟨c1,c2,c3⟩:=ei' h2;split at h
 ·cases h
 ·rename_i g
  injection h with h
  subst h;refine ⟨c1,KQ c3 (hr.le _ _ _ _ h1),fun hcx ht=>⟨headT z.1,?_,by omega,rfl⟩⟩;have hq:=hr.ft cx t n p hcx (by omega) ht h1;exact (ea' hB hcx hq h2).2.2.head
theorem bP' (hr:fR' B rc) {t ty:Tr} {n:Nat} {q:Unit × Nat} (h:cY' B rc cx t ty n = .ok q):cx.length <= 256 /\ q.2 <= n:=by
 unfold cY' at h;obtain ⟨p,h1,h⟩:=an' h;obtain ⟨z,h2,h⟩:=an' h;obtain ⟨c1,c2⟩:=fi' h2;split at h
 ·injection h with h
  subst h;exact ⟨c1,KQ c2 (hr.le _ _ _ _ h1)⟩
 ·cases h
structure rz' (vars:Int) (l:List Atom):Prop where
 lo:1 <= l.length
 hi:l.length <= 4
 up:(l.map Atom.var).Pairwise (· < ·)
 at_:∀ x ∈ l,0 <= x.var /\ x.var <= 16 /\ x.var <= vars /\ 0 <= x.add /\ x.add <= 1000
theorem kC' {x:Tr} {N:Int} (hx:Ft (QB B) N x) (h2:x.n.op = 2):rz' B.vars (dN' x):=by
 obtain ⟨hrow,hl4,hlb,hks⟩:=mJ' hx.ok h2;have hp:=hx.ok.pl;have hpp:(x.n.a = 0 \/ x.n.a = 1) /\ inR x.n.b 1 4 = true:=by simpa [ah',h2] using hp
 have hb:=aF'.1 hpp.2;have hal:=hx.al;have hinc:=hx.ok.2;obtain ⟨n,ks⟩:=x;have h2:n.op = 2:=h2;simp only [Tr.ks,Tr.n] at hlb hl4 hks hb;simp only [fZ',if_pos h2,Bool.and_eq_true] at hinc;refine ⟨by simp [dN',Tr.ks]; omega,by simp [dN',Tr.ks]; omega,?_,?_⟩
 ·have:∀ (l:List Tr) (last:Int),nn' last l = true -> (∀ y ∈ l,last < y.n.a) /\ (l.map fun y=>y.n.a).Pairwise (· < ·):=by
   intro l
   induction l with
   | nil=>intro last _; exact ⟨(fun y hy=>by cases hy),List.Pairwise.nil⟩
   | cons z l ih =>
    intro last h;simp only [nn',Bool.and_eq_true,decide_eq_true_eq] at h;obtain ⟨i1,i2⟩:=ih z.n.a h.2;refine ⟨fun y hy=>?_,?_⟩
    ·rcases List.mem_cons.1 hy with rfl | hy
     ·exact h.1
     ·have:=i1 y hy; omega
    ·rw [List.map_cons,List.pairwise_cons]
     refine ⟨fun y hy=>?_,i2⟩;obtain ⟨z',hz',rfl⟩:=List.mem_map.1 hy;exact i1 z' hz'
  have:=(this ks (-1) hinc.1).2
  simpa [dN',Tr.ks,List.map_map,Function.comp_def] using this
 ·intro y hy
  obtain ⟨k,hk,rfl⟩:=List.mem_map.1 hy;obtain ⟨k3,kp⟩:=hks k hk;have h1:=lr' (ib'.1 hal).2 hk;obtain ⟨⟨o,a,b⟩,s⟩:=k;have hq:=(ib'.1 h1).1;have k3:o = 3:=k3;subst k3;have kpp:inR a 0 16 = true /\ inR b 0 1000 = true:=by simpa [ah',Tr.n] using kp
  have a1:=aF'.1 kpp.1;have a2:=aF'.1 kpp.2;simp [QB,aZ',bR'] at hq;exact ⟨a1.1,a1.2,hq,a2.1,a2.2⟩
theorem gr' {N:Int} {kind:Int} (hk:kind = 0 \/ kind = 1) {l:List Atom} (h:rz' B.vars l):Ft (QB B) N (et' kind l):=by
 have hlen:(et' kind l).ks.length = l.length:=by simp [et',Tr.ks]
 have hrow:row (et' kind l) = ⟨2,kind,(l.length:Int)⟩ :: l.map fun a=>⟨3,a.var,a.add⟩:=by
  unfold et';simp only [row]
  congr 1
  induction l with
  | nil=>rfl
  | cons a l ih =>
   simp only [List.map_cons,rows,row];have:∀ (l:List Atom),rows (l.map fun a=>(.mk ⟨3,a.var,a.add⟩ []:Tr)) = l.map fun a=>⟨3,a.var,a.add⟩:=by
    intro l
    induction l with
    | nil=>rfl
    | cons b l ih=>simp [rows,row,ih]
   rw [this]
   rfl
 have hpl:ah' ⟨2,kind,(l.length:Int)⟩ = true:=by
  have h1:=h.lo;have h2:=h.hi;simp only [ah'];rw [if_neg (by decide),if_pos trivial];simp only [Bool.and_eq_true,Bool.or_eq_true,decide_eq_true_eq,aF'];exact ⟨hk,by omega,by omega⟩
 have hat:∀ a ∈ l,ah' ⟨3,a.var,a.add⟩ = true:=fun a ha=>by
  have:=h.at_ a ha;simp only [ah'];rw [if_neg (by decide),if_neg (by decide),if_pos trivial];simp only [Bool.and_eq_true,aF'];omega
 refine ⟨⟨⟨?_,?_⟩,?_⟩,?_,?_,?_⟩
 ·simp only [cnt,hpl]
  rw [if_pos ⟨trivial,by decide,by decide⟩];simp
 ·have:∀ (l:List Atom) (k:Nat),(∀ a ∈ l,ah' ⟨3,a.var,a.add⟩ = true) -> okL cnt nx (l.map fun a=>(.mk ⟨3,a.var,a.add⟩ []:Tr)) ⟨2,kind,(l.length:Int)⟩ .tm k:=by
   have gen:∀ (n:Nd),n.op = 2 -> ∀ (l:List Atom) (k:Nat),(∀ a ∈ l,ah' ⟨3,a.var,a.add⟩ = true) -> okL cnt nx (l.map fun a=>(.mk ⟨3,a.var,a.add⟩ []:Tr)) n .tm k:=by
    intro n hn l
    induction l with
    | nil=>intro k _; trivial
    | cons b l ih =>
     intro k hb;refine ⟨⟨?_,trivial⟩,ih _ fun a ha=>hb a (by simp [ha])⟩;have hnx:nx Md.tm n k = .am:=by simp [nx,hn]
     rw [hnx];simp [cnt,hb b (by simp)]
   intro l' k hb;exact gen _ rfl l' k hb
  exact this l 0 hat
 ·have:∀ (l:List Atom) (last:Int),(∀ a ∈ l,last < a.var) -> (l.map Atom.var).Pairwise (· < ·) -> nn' last (l.map fun a=>(.mk ⟨3,a.var,a.add⟩ []:Tr)) = true:=by
   intro l
   induction l with
   | nil=>intro last _ _; rfl
   | cons b l ih =>
    intro last h1 h2;rw [List.map_cons,List.pairwise_cons] at h2;simp only [List.map_cons,nn',Bool.and_eq_true,Tr.n];exact ⟨decide_eq_true (h1 b (by simp)),ih b.var (fun a ha=>h2.1 a.var (List.mem_map_of_mem ha)) h2.2⟩
  have h1:=this l (-1) (fun a ha=>by have:=h.at_ a ha; omega) h.up;have h3:∀ (l:List Atom),eo' (l.map fun a=>(.mk ⟨3,a.var,a.add⟩ []:Tr)) = true:=by
   intro l
   induction l with
   | nil=>rfl
   | cons b l ih=>simp [eo',fZ',ih]
  simp [et',fZ',h1,h3]
 ·rw [hrow]
  have:=h.hi;simp;omega
 ·intro q hq
  exfalso;simp only [et',varsT] at hq;rw [if_neg (by decide)] at hq;have:∀ (l:List Atom) (n:Nd) (nb k d:Int),varsK (l.map fun a=>(.mk ⟨3,a.var,a.add⟩ []:Tr)) n nb k d = []:=by
   intro l
   induction l with
   | nil=>intros; rfl
   | cons b l ih=>intros; simp [varsK,varsT,ih]
  rw [this] at hq;cases hq
 ·intro m hm
  rw [hrow] at hm;rcases List.mem_cons.1 hm with rfl | hm
  ·simp [QB,aZ',bR']
  ·obtain ⟨a,ha,rfl⟩:=List.mem_map.1 hm
   have:=h.at_ a ha;simp [QB,aZ',bR'];omega
theorem tL' {vars:Int} {l:List Atom} (h:rz' vars l) (he:upE l 1 = 0):rz' vars (upR l 1):=by
 have hR:upR l 1 = upL l 1:=by unfold upR; rw [if_pos he]
 rw [hR];have hmv:(upL l 1).map Atom.var = l.map Atom.var:=by simp [upL,List.map_map,Function.comp_def]
 have hany:∀ x ∈ l,x.add + 1 <= 1000:=by
  unfold upE at he;split at he
  ·cases he
  ·rw [if_neg (by decide)] at he
   split at he
   ·cases he
   ·rename_i g
    intro x hx;have:¬ (l.any fun x=>decide (1000 < x.add + 1)) = true:=g;rw [List.any_eq_true] at this
    by_cases q:1000 < x.add + 1
    ·exact absurd ⟨x,hx,by simpa using q⟩ this
    ·omega
 refine ⟨by simpa [upL] using h.lo,by simpa [upL] using h.hi,by rw [hmv]; exact h.up,fun y hy=>?_⟩;obtain ⟨x,hx,rfl⟩:=List.mem_map.1 hy;have:=h.at_ x hx;have:=hany x hx;simp only;omega
theorem pw' {vars:Int} {a b:List Atom} (ha:rz' vars a) (hb:rz' vars b) (he:mI' a b = 0):rz' vars (nN' a b):=by
 have hR:nN' a b = maxL a b:=by unfold nN'; rw [if_pos he]
 rw [hR];have hmv:=gY' (id' (a ++ b)) (List.range 17);have hmv:(maxL a b).map Atom.var = eq' (id' (a ++ b)) (List.range 17):=hmv;have hlen:(maxL a b).length <= 4:=by
  unfold mI' at he;split at he
  ·cases he
  ·split at he
   ·cases he
   ·omega
 have hfrom:∀ x v,id' (a ++ b) x = some v -> ∃ y,(y ∈ a \/ y ∈ b) /\ y.var = x /\ y.add = v:=fun x v h=>by
  obtain ⟨y,hy,h1,h2⟩:=ku' h;exact ⟨y,List.mem_append.1 hy,h1,h2⟩
 have hmem:∀ y ∈ maxL a b,id' (a ++ b) y.var = some y.add:=fun y hy=>by
  unfold maxL at hy;obtain ⟨v,_,hv⟩:=List.mem_filterMap.1 hy;cases h:id' (a ++ b) v with
  | none=>rw [h] at hv; cases hv
  | some n =>
   rw [h] at hv;obtain rfl:=JB hv;exact h
 refine ⟨?_,hlen,by rw [hmv]; exact jo' _ _,fun y hy=>?_⟩
 ·obtain ⟨y,hy⟩:∃ y,y ∈ a:=by
   cases a with
   | nil=>have:=ha.lo; simp at this
   | cons y r=>exact ⟨y,by simp⟩
  have hyb:=ha.at_ y hy;obtain ⟨v,hv,_⟩:=rn' (l:=a ++ b) (y:=y) (by simp [hy]);have:(⟨y.var,v⟩:Atom) ∈ maxL a b:=by
   unfold maxL;refine List.mem_filterMap.2 ⟨y.var.toNat,List.mem_range.2 (by omega),?_⟩;rw [show ((y.var.toNat:Nat):Int) = y.var by omega,hv]
   rfl
  have:=List.length_pos_of_mem this;omega
 ·obtain ⟨z,hz,h1,h2⟩:=hfrom _ _ (hmem y hy)
  rw [<- h1,<- h2];rcases hz with hz | hz
  ·exact ha.at_ z hz
  ·exact hb.at_ z hz
end
theorem px' {x:Tr} (h:Ok .tm x):x.n.op = 1 \/ x.n.op = 2 \/ x.n.op = 4 \/ x.n.op = 5 \/ x.n.op = 6 \/ x.n.op = 7 \/ x.n.op = 8 \/ x.n.op = 9 \/ x.n.op = 10 \/ x.n.op = 11 \/ x.n.op = 12:=by
 obtain ⟨n,ks⟩:=x;obtain ⟨hp,h3,h13,_⟩:=bG' h.kids.1;simp only [Tr.n];simp only [ah'] at hp
 repeat' split at hp
 all_goals first | omega | (exact absurd hp (by decide))
theorem aB' {Q:Nd -> Prop} {N:Int} {x:Tr} (h:Ft Q N x) (h4:x.n.op = 4 \/ x.n.op = 5):(kidsT x).length = 2 /\ Ft Q N (kidD x 0) /\ Ft Q (N + 1) (kidD x 1):=by
 obtain ⟨hkk,hkl⟩:=bn' h.ok (by omega) (by omega);have hkc:ar' x.n = 2:=by rcases h4 with h4 | h4 <;> simp [ar',h4]
 have f1:=h.kidN 0 (by rw [hkk]; omega) (b:=0) (by rcases h4 with h4 | h4 <;> simp [kb,aJ',h4]);have f2:=h.kidN 1 (by rw [hkk]; omega) (b:=1) (by rcases h4 with h4 | h4 <;> simp [kb,aJ',h4]);rw [Int.add_zero] at f1;exact ⟨by rw [hkk]; omega,f1,f2⟩
theorem jv' {Q:Nd -> Prop} {N:Int} {x:Tr} (h:Ft Q N x) (h6:x.n.op = 6):(kidsT x).length = 2 /\ Ft Q N (kidD x 0) /\ Ft Q N (kidD x 1):=by
 obtain ⟨hkk,hkl⟩:=bn' h.ok (by omega) (by omega);have hkc:ar' x.n = 2:=by simp [ar',h6]
 have f1:=h.kidN 0 (by rw [hkk]; omega) (b:=0) (by simp [kb,aJ',h6]);have f2:=h.kidN 1 (by rw [hkk]; omega) (b:=0) (by simp [kb,aJ',h6]);rw [Int.add_zero] at f1 f2;exact ⟨by rw [hkk]; omega,f1,f2⟩
theorem gs' {Q:Nd -> Prop} {N:Int} {x:Tr} (h:Ft Q N x) (h7:x.n.op = 7):(kidsT x).length = 3 /\ Ft Q N (kidD x 0) /\ Ft Q N (kidD x 1) /\ Ft Q (N + 1) (kidD x 2):=by
 obtain ⟨hkk,hkl⟩:=bn' h.ok (by omega) (by omega);have hkc:ar' x.n = 3:=by simp [ar',h7]
 have f1:=h.kidN 0 (by rw [hkk]; omega) (b:=0) (by simp [kb,aJ',h7]);have f2:=h.kidN 1 (by rw [hkk]; omega) (b:=0) (by simp [kb,aJ',h7]);have f3:=h.kidN 2 (by rw [hkk]; omega) (b:=1) (by simp [kb,aJ',h7]);rw [Int.add_zero] at f1 f2;exact ⟨by rw [hkk]; omega,f1,f2,f3⟩
theorem ej' {Q:Nd -> Prop} {N:Int} {x:Tr} (h:Ft Q N x) (h11:x.n.op = 11):((kidsT x).length:Int) = 2 + x.n.b /\ 0 <= x.n.b /\ x.n.b <= 16 /\ ∀ y ∈ kidsT x,Ft Q N y:=by
 obtain ⟨h1,h2,h3,h4⟩:=aA' h.ok h11;exact ⟨by rw [h1]; exact h2,h3,h4,fe' h (by omega)⟩
theorem kD' {x:Tr} (h:Ok .tm x) (h2:x.n.op = 2):x.n.a = 0 \/ x.n.a = 1:=by
 have hp:=h.pl;have:(x.n.a = 0 \/ x.n.a = 1) /\ inR x.n.b 1 4 = true:=by simpa [ah',h2] using hp
 exact this.1
section
variable {B:BoT} {rc:RcJ} {cx:Ctx}
theorem db' (hB:GoodB B) (hr:fR' B rc) (hcx:CxOk B cx) {t:Tr} (ht:Ft (QB B) (cx.length:Int) t) {n:Nat} {q:(Int × List Atom) × Nat} (h:dY' B rc cx t n = .ok q):cx.length <= 256 /\ (q.1.1 = 0 \/ q.1.1 = 1) /\ rz' B.vars q.1.2:=by
 obtain ⟨h1,h2,h3⟩:=bA' hB hr h;obtain ⟨s,hs,s2,he⟩:=h3 hcx ht;rw [he];exact ⟨h1,kD' hs.ok s2,kC' hs s2⟩
theorem cg' {q:Tr × Option Tr}:(cx ++ [q]).length = cx.length + 1:=by simp
theorem fj' {x:Tr} {ys:List Tr} {e:Int} (h:aH' x ys = .error e):e = 9:=by
 unfold aH' at h;split at h
 ·injection h with h; exact h.symm
 ·cases h
theorem ek' {ys:List Tr} {x:Tr} {e:Int} (h:bq' ys x = .error e):e = 9:=by
 unfold bq' at h;split at h
 ·injection h with h; exact h.symm
 ·cases h
theorem hI' {b u:Tr} {v:Int} {e:Int} (h:ay' b u v = .error e):e = 9:=by
 unfold ay' at h;split at h
 ·injection h with h; exact h.symm
 ·cases h
theorem ebind_er {α β:Type} {m:Except Int α} {k:α -> Except Int β} {e:Int} (h:m.bind k = .error e):m = .error e \/ ∃ x,k x = .error e:=by
 cases m with
 | error a =>
  have h:Except.error a = Except.error e:=h;injection h with h
  exact .inl (by rw [h])
 | ok a=>exact .inr ⟨a,h⟩
theorem lH' {ps:List Tr} {more:Int} {e:Int}:∀ (i:Nat) (t:Tr),aS' ps more i t = .error e -> e = 9
 | 0,t,h=>by cases h
 | i + 1,t,h=>by
  rcases ebind_er h with h | ⟨x,h⟩
  ·exact hI' h
  ·exact lH' i x h
theorem nA' {a b:Int} {ps:List Tr} {mo:Tr} {e:Int} (h:bZ' B a b ps mo = .error e):e = 9:=by
 rcases ebind_er h with h | ⟨x,h⟩
 ·exact fj' h
 rcases ebind_er h with h | ⟨y,h⟩
 ·exact fj' h
 rcases ebind_er h with h | ⟨y,h⟩
 ·exact ek' h
 ·exact lH' _ _ h
theorem tM' {a:Int} {e:Int} (h:sB' B a = .error e):e = 9:=by
 rcases ebind_er h with h | ⟨x,h⟩
 ·exact ek' h
 ·exact ek' h
theorem rA' {a b:Int} {e:Int} (h:jr' B a b = .error e):e = 9:=by
 rcases ebind_er h with h | ⟨x,h⟩
 ·exact fj' h
 rcases ebind_er h with h | ⟨y,h⟩
 ·exact ek' h
 ·exact ek' h
theorem rB' {a:Int} {ps:List Tr} {i ni:Nat} {e:Int} (h:ju' B a ps i ni = .error e):e = 9:=by
 unfold ju' at h;split at h
 ·exact lH' _ _ h
 ·exact fj' h
theorem andE_er {m:Except Int (Bool × Nat)} {k:Nat -> Except Int (Bool × Nat)} {e:Int} (h:fr' m k = .error e):m = .error e \/ ∃ n,k n = .error e:=by
 unfold fr' at h;split at h
 ·injection h with h
  subst h;exact .inl rfl
 ·rename_i q
  split at h
  ·exact .inr ⟨_,h⟩
  ·cases h
abbrev vM' (rc:RcC):Prop:=∀ cx x y u n e,rc cx x y u n = .error e -> e ≠ 0
theorem lI' {rc:RcC} (hr:vM' rc) {e:Int}:∀ (xs ys:List Tr) (n:Nat),jp' rc cx xs ys n = .error e -> e ≠ 0
 | x :: r,y :: s,n,h=>by
  rcases andE_er h with h | ⟨m,h⟩
  ·exact hr _ _ _ _ _ _ h
  ·exact lI' hr r s _ h
 | [],ys,n,h=>by simp [jp'] at h
 | x :: r,[],n,h=>by simp [jp'] at h
theorem py' {rc:RcC} (hr:vM' rc) {cx':Ctx} {e:Int}:∀ (xs ys:List Tr) (n:Nat),hY' rc cx cx' xs ys n = .error e -> e ≠ 0
 | x :: a :: r,y :: b :: s,n,h=>by
  rcases andE_er h with h | ⟨m,h⟩
  ·exact hr _ _ _ _ _ _ h
  rcases andE_er h with h | ⟨m,h⟩
  ·exact hr _ _ _ _ _ _ h
  ·exact py' hr r s _ h
 | [],ys,n,h=>by simp [hY'] at h
 | [x],ys,n,h=>by simp [hY'] at h
 | x :: a :: r,[],n,h=>by simp [hY'] at h
 | x :: a :: r,[y],n,h=>by simp [hY'] at h
theorem pz' {rc:RcC} (hr:vM' rc) {f g:Tr} {u:Bool} {n:Nat} {e:Int} (h:dH' B rc cx f g u n = .error e):e ≠ 0:=by
 unfold dH' at h;split at h
 ·cases h
 split at h
 ·rcases andE_er h with h | ⟨m,h⟩
  ·exact hr _ _ _ _ _ _ h
  ·exact hr _ _ _ _ _ _ h
 split at h
 ·rcases andE_er h with h | ⟨m,h⟩
  ·exact hr _ _ _ _ _ _ h
  ·exact hr _ _ _ _ _ _ h
 split at h
 ·split at h
  ·unfold hj' at h
   split at h
   ·exact py' hr _ _ _ h
   ·cases h
  ·cases h
 split at h
 ·exact lI' hr _ _ _ h
 ·cases h
theorem lJ' {x:Tr} {f:Int} {e:Int} (h:aM' B cx x f = .error e):e ≠ 0:=by
 have:=gW' _ _ _ _ _ h;omega
theorem lK' (B:BoT):∀ (g:Nat),vM' (mK' B g)
 | 0,cx,x,y,u,n,e,h=>by
  simp only [mK'] at h;injection h with h
  omega
 | g + 1,cx,x,y,u,n,e,h=>by
  simp only [mK'] at h;split at h
  ·injection h with h
   omega
  split at h
  ·cases h
  split at h
  ·injection h with h
   omega
  split at h
  ·rename_i er hw
   injection h with h
   subst h;exact lJ' hw
  split at h
  ·rename_i er hw
   injection h with h
   subst h;exact lJ' hw
  ·unfold ky' at h
   split at h
   ·cases h
   rcases andE_er h with h | ⟨m,h⟩
   ·exact pz' (lK' B g) h
   ·exact lI' (lK' B g) _ _ _ h
theorem fk' {t:Tr} {n:Nat} {e:Int} (h:dM' B cx t n = .error e):e ≠ 0:=by
 unfold dM' at h;split at h
 ·injection h with h
  omega
 ·exact lJ' h
theorem kE' {x y:Tr} {u:Bool} {n:Nat} {e:Int} (h:dI' B cx x y u n = .error e):e ≠ 0:=by
 unfold dI' at h;split at h
 ·injection h with h
  omega
 ·exact lK' B _ _ _ _ _ _ _ h
theorem el' (hr:fR' B rc) {t:Tr} {n:Nat} {e:Int} (h:dY' B rc cx t n = .error e):e ≠ 0:=by
 rcases bdJ_er h with h | ⟨p,_,h⟩
 ·exact hr.er _ _ _ _ h
 rcases bdJ_er h with h | ⟨p,_,h⟩
 ·exact fk' h
 split at h
 ·injection h with h
  omega
 ·cases h
theorem fl' (hr:fR' B rc) {t ty:Tr} {n:Nat} {e:Int} (h:cY' B rc cx t ty n = .error e):e ≠ 0:=by
 rcases bdJ_er h with h | ⟨p,_,h⟩
 ·exact hr.er _ _ _ _ h
 rcases bdJ_er h with h | ⟨p,_,h⟩
 ·exact kE' h
 split at h
 ·cases h
 ·injection h with h
  omega
theorem mP' {a:Int} {ps:List Tr} {ni:Nat} {e:Int}:∀ (k i:Nat) (cx:Ctx) (m:Tr) (n:Nat),hG' B a ps ni k i cx m n = .error e -> e ≠ 0
 | 0,i,cx,m,n,h=>by
  rcases bdJ_er h with h | ⟨p,_,h⟩
  ·exact fk' h
  split at h
  ·injection h with h
   omega
  ·cases h
 | k + 1,i,cx,m,n,h=>by
  rcases bdJ_er h with h | ⟨p,_,h⟩
  ·exact fk' h
  split at h
  ·injection h with h
   omega
  rcases bdJ_er h with h | ⟨p,_,h⟩
  ·have:=rB' (fS' h)
   omega
  rcases bdJ_er h with h | ⟨p,_,h⟩
  ·exact kE' h
  split at h
  ·exact mP' k _ _ _ _ h
  ·injection h with h
   omega
theorem jw' {a:Int} {ps:List Tr} {ni:Nat} {q:Int × Nat}:∀ (k i:Nat) (cx:Ctx) (m:Tr) (n:Nat),hG' B a ps ni k i cx m n = .ok q -> q.2 <= n
 | 0,i,cx,m,n,h=>by
  obtain ⟨p,h1,h⟩:=an' h;have:=(ei' h1).2.2;split at h
  ·cases h
  ·injection h with h
   subst h;exact this
 | k + 1,i,cx,m,n,h=>by
  obtain ⟨p,h1,h⟩:=an' h;have a1:=(ei' h1).2.2;split at h
  ·cases h
  obtain ⟨p2,h2,h⟩:=an' h;have a2:=(da' h2).2;obtain ⟨p3,h3,h⟩:=an' h;have a3:=(fi' h3).2;split at h
  ·have:=jw' k _ _ _ _ h
   omega
  ·cases h
theorem mQ' (hr:fR' B rc) {e:Int}:∀ (l:List Tr) (cx:Ctx) (n:Nat),lG' B rc cx l n = .error e -> e ≠ 0
 | [],cx,n,h=>by cases h
 | a :: r,cx,n,h=>by
  rcases bdJ_er h with h | ⟨p,_,h⟩
  ·exact el' hr h
  split at h
  ·cases h
  ·exact mQ' hr r _ _ h
theorem mR' (hB:GoodB B) (hr:fR' B rc) {q:Bool × Nat}:∀ (l:List Tr) (cx:Ctx) (n:Nat),lG' B rc cx l n = .ok q -> q.2 <= n
 | [],cx,n,h=>by
  injection h with h
  subst h;exact KJ _
 | a :: r,cx,n,h=>by
  obtain ⟨p,h1,h⟩:=an' h;have a1:=(bA' hB hr h1).2.1;split at h
  ·injection h with h
   subst h;exact a1
  ·have:=mR' hB hr r _ _ h
   omega
theorem nB' (hr:fR' B rc) {a:Int} {n:Nat} {e:Int} (h:dZ' B rc a n = .error e):e ≠ 0:=by
 unfold dZ' at h;split at h
 ·cases h
 split at h
 ·cases h
 ·exact mQ' hr _ _ _ h
theorem iE' (hB:GoodB B) (hr:fR' B rc) {a:Int} {n:Nat} {q:Bool × Nat} (h:dZ' B rc a n = .ok q):q.2 <= n:=by
 unfold dZ' at h;split at h
 ·injection h with h
  subst h;exact KJ _
 split at h
 ·injection h with h
  subst h;exact KJ _
 ·exact mR' hB hr _ _ _ h
theorem fT' (hr:fR' B rc) {a:Int} {ps:List Tr} {mo:Tr} {e:Int}:∀ (l:List Tr) (k n:Nat),aE' B rc cx a ps mo k l n = .error e -> e ≠ 0
 | [],k,n,h=>by cases h
 | b :: r,k,n,h=>by
  rcases bdJ_er h with h | ⟨p,_,h⟩
  ·have:=nA' (fS' h)
   omega
  rcases bdJ_er h with h | ⟨p,_,h⟩
  ·exact fl' hr h
  ·exact fT' hr r _ _ h
theorem fU' (hr:fR' B rc) {a:Int} {ps:List Tr} {mo:Tr} {q:Unit × Nat}:∀ (l:List Tr) (k n:Nat),aE' B rc cx a ps mo k l n = .ok q -> q.2 <= n
 | [],k,n,h=>by
  injection h with h
  subst h;exact KJ _
 | b :: r,k,n,h=>by
  obtain ⟨p,h1,h⟩:=an' h;have a1:=(da' h1).2;obtain ⟨p2,h2,h⟩:=an' h;have a2:=(bP' hr h2).2;have:=fU' hr r _ _ h;omega
theorem kF' (hr:fR' B rc) {t:Tr} {e:Int}:∀ (k i n:Nat),ex' B rc cx t k i n = .error e -> e ≠ 0
 | 0,i,n,h=>by cases h
 | k + 1,i,n,h=>by
  rcases bdJ_er h with h | ⟨p,_,h⟩
  ·exact el' hr h
  ·exact kF' hr k _ _ h
theorem kG' (hB:GoodB B) (hr:fR' B rc) {t:Tr} {q:Unit × Nat}:∀ (k i n:Nat),ex' B rc cx t k i n = .ok q -> q.2 <= n /\ (0 < k -> cx.length <= 256)
 | 0,i,n,h=>by
  injection h with h
  subst h;exact ⟨KJ _,fun h=>by omega⟩
 | k + 1,i,n,h=>by
  obtain ⟨p,h1,h⟩:=an' h;have a1:=bA' hB hr h1;have:=kG' hB hr k _ _ h;exact ⟨by omega,fun _=>a1.1⟩
theorem iF' (hr:fR' B rc) {t:Tr} {nb:Nat} {e:Int}:∀ (k i n:Nat),cK' B rc cx t nb k i n = .error e -> e ≠ 0
 | 0,i,n,h=>by cases h
 | k + 1,i,n,h=>by
  rcases bdJ_er h with h | ⟨p,_,h⟩
  ·exact fl' hr h
  ·exact iF' hr k _ _ h
theorem iG' (hr:fR' B rc) {t:Tr} {nb:Nat} {q:Unit × Nat}:∀ (k i n:Nat),cK' B rc cx t nb k i n = .ok q -> q.2 <= n
 | 0,i,n,h=>by
  injection h with h
  subst h;exact KJ _
 | k + 1,i,n,h=>by
  obtain ⟨p,h1,h⟩:=an' h;have a1:=(bP' hr h1).2;have:=iG' hr k _ _ h;omega
end
section
variable {B:BoT} {rc:RcJ} {cx:Ctx}
theorem rC' (hr:fR' B rc) {t:Tr} {n:Nat} {e:Int} (h:cZ' B rc cx t n = .error e):e ≠ 0:=by
 unfold cZ' at h;split at h
 ·cases h
 split at h
 ·unfold nz' at h
  split at h
  ·injection h with h
   omega
  ·cases h
 split at h
 ·cases h
 split at h
 ·have:=tM' (fS' h)
  omega
 split at h
 ·have:=rA' (fS' h)
  omega
 split at h
 ·unfold jpi at h
  rcases bdJ_er h with h | ⟨p,_,h⟩
  ·exact el' hr h
  rcases bdJ_er h with h | ⟨q,_,h⟩
  ·exact el' hr h
  split at h
  ·injection h with h
   omega
  ·cases h
 split at h
 ·unfold uA' at h
  rcases bdJ_er h with h | ⟨p,_,h⟩
  ·exact el' hr h
  rcases bdJ_er h with h | ⟨q,_,h⟩
  ·exact hr.er _ _ _ _ h
  have:=ek' (fS' h);omega
 split at h
 ·unfold tK' at h
  rcases bdJ_er h with h | ⟨p,_,h⟩
  ·exact hr.er _ _ _ _ h
  rcases bdJ_er h with h | ⟨q,_,h⟩
  ·exact fk' h
  split at h
  ·injection h with h
   omega
  rcases bdJ_er h with h | ⟨q,_,h⟩
  ·exact fl' hr h
  have:=hI' (fS' h);omega
 split at h
 ·unfold uB' at h
  rcases bdJ_er h with h | ⟨p,_,h⟩
  ·exact el' hr h
  rcases bdJ_er h with h | ⟨q,_,h⟩
  ·exact fl' hr h
  rcases bdJ_er h with h | ⟨q,_,h⟩
  ·exact hr.er _ _ _ _ h
  have:=hI' (fS' h);omega
 split at h
 ·unfold ew' at h
  simp only at h;rcases bdJ_er h with h | ⟨p,_,h⟩
  ·exact hr.er _ _ _ _ h
  rcases bdJ_er h with h | ⟨q,_,h⟩
  ·exact fk' h
  split at h
  ·injection h with h
   omega
  split at h
  ·injection h with h
   omega
  rcases bdJ_er h with h | ⟨q,_,h⟩
  ·exact hr.er _ _ _ _ h
  rcases bdJ_er h with h | ⟨q,_,h⟩
  ·exact mP' _ _ _ _ _ h
  rcases bdJ_er h with h | ⟨q,_,h⟩
  ·split at h
   ·exact nB' hr h
   ·cases h
  split at h
  ·injection h with h
   omega
  rcases bdJ_er h with h | ⟨q,_,h⟩
  ·exact fT' hr _ _ _ h
  have:=fj' (fS' h);omega
 ·unfold sC' at h
  rcases bdJ_er h with h | ⟨p,_,h⟩
  ·exact kF' hr _ _ _ h
  split at h
  ·injection h with h
   omega
  rcases bdJ_er h with h | ⟨p,_,h⟩
  ·exact iF' hr _ _ _ h
  cases h
theorem rD' (hB:GoodB B) (hr:fR' B rc) {t:Tr} {n:Nat} {q:Tr × Nat} (h:cZ' B rc cx t n = .ok q):q.2 <= n:=by
 unfold cZ' at h;split at h
 ·injection h with h
  subst h;exact KJ _
 split at h
 ·unfold nz' at h
  split at h
  ·cases h
  ·injection h with h
   subst h;exact KJ _
 split at h
 ·injection h with h
  subst h;exact KJ _
 split at h
 ·exact Nat.le_of_eq (da' h).2
 split at h
 ·exact Nat.le_of_eq (da' h).2
 split at h
 ·unfold jpi at h
  obtain ⟨p1,h1,h⟩:=an' h;obtain ⟨p2,h2,h⟩:=an' h;have a1:=(bA' hB hr h1).2.1;have a2:=(bA' hB hr h2).2.1;split at h
  ·cases h
  ·injection h with h
   subst h;simp only;omega
 split at h
 ·unfold uA' at h
  obtain ⟨p1,h1,h⟩:=an' h;obtain ⟨p2,h2,h⟩:=an' h;have a1:=(bA' hB hr h1).2.1;have a2:=hr.le _ _ _ _ h2;have a3:=(da' h).2;omega
 split at h
 ·unfold tK' at h
  obtain ⟨p1,h1,h⟩:=an' h;obtain ⟨p2,h2,h⟩:=an' h;have a1:=hr.le _ _ _ _ h1;have a2:=(ei' h2).2.2;split at h
  ·cases h
  obtain ⟨p3,h3,h⟩:=an' h;have a3:=(bP' hr h3).2;have a4:=(da' h).2;omega
 split at h
 ·unfold uB' at h
  obtain ⟨p1,h1,h⟩:=an' h;obtain ⟨p2,h2,h⟩:=an' h;obtain ⟨p3,h3,h⟩:=an' h;have a1:=(bA' hB hr h1).2.1;have a2:=(bP' hr h2).2;have a3:=hr.le _ _ _ _ h3;have a4:=(da' h).2;omega
 split at h
 ·unfold ew' at h
  simp only at h;obtain ⟨p1,h1,h⟩:=an' h;obtain ⟨p2,h2,h⟩:=an' h;have a1:=hr.le _ _ _ _ h1;have a2:=(ei' h2).2.2;split at h
  ·cases h
  split at h
  ·cases h
  obtain ⟨p3,h3,h⟩:=an' h;obtain ⟨p4,h4,h⟩:=an' h;obtain ⟨p5,h5,h⟩:=an' h;have a3:=hr.le _ _ _ _ h3;have a4:=jw' _ _ _ _ _ h4;have a5:p5.2 <= p4.2:=by
   split at h5
   ·exact iE' hB hr h5
   ·injection h5 with h5
    subst h5;exact KJ _
  split at h
  ·cases h
  obtain ⟨p6,h6,h⟩:=an' h;have a6:=fU' hr _ _ _ h6;have a7:=(da' h).2;omega
 ·unfold sC' at h
  obtain ⟨p1,h1,h⟩:=an' h;have a1:=(kG' hB hr _ _ _ h1).1;split at h
  ·cases h
  obtain ⟨p2,h2,h⟩:=an' h;have a2:=iG' hr _ _ _ h2;injection h with h
  subst h;simp only;omega
theorem bx' {α:Type} {l:List α} {i:Nat} {d:α} (h:i < l.length):l.getD i d ∈ l:=by
 rw [List.getD_eq_getElem?_getD,List.getElem?_eq_getElem h];exact List.getElem_mem h
theorem rE' (hB:GoodB B) (hr:fR' B rc) (hcx:CxOk B cx) (hcl:cx.length <= 260) {t:Tr} (ht:Ft (QB B) (cx.length:Int) t) {n:Nat} {q:Tr × Nat} (h:cZ' B rc cx t n = .ok q):Ft (QB B) (cx.length:Int) q.1:=by
 have h0:(0:Int) <= (cx.length:Int):=by omega
 unfold cZ' at h;split at h
 ·rename_i g
  injection h with h
  subst h;obtain ⟨n1,ks⟩:=t;obtain ⟨v0,v1,_⟩:=ht.var_lt g;obtain ⟨c1,c2⟩:=hcx _ _ (cf' v0 v1);have:=c1.lift (qk B) (b:=n1.a + 1) (by omega) (by omega) (by omega);refine this.mono ?_;omega
 split at h
 ·unfold nz' at h
  rename_i g;split at h
  ·cases h
  ·rename_i g1
   injection h with h
   subst h;exact gr' (.inr rfl) (tL' (kC' ht g) (by omega))
 split at h
 ·rename_i g
  injection h with h
  subst h;obtain ⟨i,x,ty,bo,hi,hx,he,hd⟩:=hB.dfn ht.node' g;simp only;rw [he,hd.type,cJ' hd.ft.ok];exact (hd.ft.wk fun m hm=>dV' (Nat.le_of_lt (ai' hx)) hm).mono h0
 split at h
 ·rename_i g
  have hp:=ba' ht.ok.pl;exact (pu' hB (re' ht.node' g hp.2.2.1) (da' h).1).mono h0
 split at h
 ·rename_i g
  have hp:=ba' ht.ok.pl;exact (pv' hB (jk' ht.node' (.inl g)) hp.1 (mE' ht.node' g) (da' h).1).mono h0
 split at h
 ·unfold jpi at h
  rename_i g;obtain ⟨_,k0,k1⟩:=aB' ht (.inl g);obtain ⟨p1,h1,h⟩:=an' h;obtain ⟨p2,h2,h⟩:=an' h;obtain ⟨a1,a2,a3⟩:=db' hB hr hcx k0 h1;obtain ⟨b1,b2,b3⟩:=db' hB hr (hcx.snoc k0 fun x hx=>by cases hx) (t:=kidD t 1) (by rw [cg']; exact k1.mono (by omega)) h2;split at h
  ·cases h
  ·rename_i g1
   injection h with h
   subst h;exact gr' b2 (pw' a3 b3 (by omega))
 split at h
 ·unfold uA' at h
  rename_i g;obtain ⟨_,k0,k1⟩:=aB' ht (.inr g);obtain ⟨p1,h1,h⟩:=an' h;obtain ⟨p2,h2,h⟩:=an' h;obtain ⟨a1,a2,a3⟩:=db' hB hr hcx k0 h1;have:=hr.ft _ _ _ _ (hcx.snoc k0 fun x hx=>by cases hx) (by rw [cg']; omega) (by rw [cg']; exact k1.mono (by omega)) h2;rw [cg'] at this;refine bN' (qk B) (this.mono (by simp)) (fun i y hy=>?_) (da' h).1;have hi:=ai' hy;obtain rfl:i = 0:=by simp at hi; omega
  simp only [List.getElem?_cons_zero,Option.some.injEq] at hy;subst hy;exact k0.mono (by omega)
 split at h
 ·unfold tK' at h
  rename_i g;obtain ⟨_,k0,k1⟩:=jv' ht g;obtain ⟨p1,h1,h⟩:=an' h;obtain ⟨p2,h2,h⟩:=an' h;have f1:=hr.ft _ _ _ _ hcx hcl k0 h1;obtain ⟨_,_,f2⟩:=ea' hB hcx f1 h2;split at h
  ·cases h
  rename_i g1;obtain ⟨p3,h3,h⟩:=an' h;obtain ⟨_,z0,z1⟩:=aB' f2.head (.inl (by omega));have:=az' (qk B) (v:=0) (z1.mono (by omega)) k1 h0 (by omega) (by omega) (by omega) (da' h).1;exact this.mono (by omega)
 split at h
 ·unfold uB' at h
  rename_i g;obtain ⟨_,k0,k1,k2⟩:=gs' ht g;obtain ⟨p1,h1,h⟩:=an' h;obtain ⟨p2,h2,h⟩:=an' h;obtain ⟨p3,h3,h⟩:=an' h;obtain ⟨a1,a2,a3⟩:=db' hB hr hcx k0 h1;have:=hr.ft _ _ _ _ (hcx.snoc k0 fun x hx=>by injection hx with hx; rw [<- hx]; exact k1) (by rw [cg']; omega) (by rw [cg']; exact k2.mono (by omega)) h3;rw [cg'] at this;have:=az' (qk B) (v:=0) (this.mono (by omega)) k1 h0 (by omega) (by omega) (by omega) (da' h).1;exact this.mono (by omega)
 split at h
 ·rename_i g
  obtain ⟨l1,l2,l3,kf⟩:=ej' ht g;unfold ew' at h;simp only at h;obtain ⟨p1,h1,h⟩:=an' h;obtain ⟨p2,h2,h⟩:=an' h;split at h
  ·cases h
  split at h
  ·cases h
  obtain ⟨p3,h3,h⟩:=an' h;obtain ⟨p4,h4,h⟩:=an' h;obtain ⟨p5,h5,h⟩:=an' h;split at h
  ·cases h
  obtain ⟨p6,h6,h⟩:=an' h;have k0:Ft (QB B) (cx.length:Int) ((kidsT t).getD 0 (varX 0)):=kf _ (bx' (by omega));have k1:Ft (QB B) (cx.length:Int) ((kidsT t).getD 1 (varX 0)):=kf _ (bx' (by omega));have f1:=hr.ft _ _ _ _ hcx hcl k1 h1;obtain ⟨_,_,f2⟩:=ea' hB hcx f1 h2;refine aL' (qk B) k0 (fun y hy=>?_) (da' h).1;rcases List.mem_append.1 hy with hy | hy
  ·exact f2.args _ (List.mem_of_mem_drop hy)
  ·simp only [List.mem_singleton] at hy
   subst hy;exact k1
 ·rename_i g1 g2 g8 g9 g10 g4 g5 g6 g7 g11
  have g12:t.n.op = 12:=by
   have:=px' ht.ok;omega
  have hl:=aG' ht.ok g12;unfold sC' at h;obtain ⟨p1,h1,h⟩:=an' h;split at h
  ·cases h
  obtain ⟨p2,h2,h⟩:=an' h;injection h with h
  subst h;exact (bt' ht g12 (i:=t.n.a.toNat) (by omega)).2.2.1
theorem pA' (hB:GoodB B) (hr:fR' B rc):fR' B (cZ' B rc) :=
 ⟨fun cx t n q h1 h2 h3 h=>rE' hB hr h1 h2 h3 h,fun cx t n q h=>rD' hB hr h,fun cx t n e h=>rC' hr h⟩
theorem fm' (hB:GoodB B):∀ (g:Nat),fR' B (bO' B g)
 | 0=>⟨fun cx t n q h1 h2 h3 h=>by simp [bO'] at h,fun cx t n q h=>by simp [bO'] at h,fun cx t n e h=>by simp [bO'] at h; omega⟩
 | g + 1=>pA' hB (fm' hB g)
end
theorem hJ' (w:World) :
  CC 52 #[iV 0] w (fun e w'=>(∃ v,e = .returned v) /\ Kp [] w w'):=by
 refine oF Tryz.func52 ?_;refine cO (args:=[_]) 7 [] τok Tryz.func52 ?_;exact ⟨⟨_,rfl⟩,Kp.refl _ _⟩
theorem aN' (er:Int) (he:er ≠ 0) (w:World) :
  CC 52 #[iV er] w (fun e w'=>e = .panicked (dA' er) /\ Kp [] w w'):=by
 refine oF Tryz.func52 ?_;refine cO (args:=[_]) 7 [] τok Tryz.func52 ?_;refine au' (p:=er ≠ 0) he ?_;refine run (jh' _ w) ?_;exact ⟨rfl,Kp.refl _ _⟩
theorem pB' (a:Option Addr) (n c:Nat) (h:n <= 256) (w:World) :
  CC 80 #[.slice a n c] w (fun e w'=>(∃ v,e = .returned v) /\ Kp [] w w'):=by
 refine oF Tryz.func80 ?_;refine cO (args:=[_]) 6 [] τok Tryz.func80 ?_;refine cj' (p:=(256:Int) < (n:Int)) (by omega) ?_;exact ⟨⟨_,rfl⟩,Kp.refl _ _⟩
theorem pC' (a:Option Addr) (n c:Nat) (h:256 < n) (w:World) :
  CC 80 #[.slice a n c] w (fun e w'=>e = .panicked (dA' 5) /\ Kp [] w w'):=by
 refine oF Tryz.func80 ?_;refine cO (args:=[_]) 6 [] τok Tryz.func80 ?_;refine au' (p:=(256:Int) < (n:Int)) (by omega) ?_;refine ab' (aN' 5 (by decide) w) ?_;rintro e w1 ⟨rfl,hk1⟩;exact ⟨rfl,hk1⟩
theorem wt' {P:Program} {τ:Tau} (hτ:ax' P τ) {T T':TypeId} {q q':Nat × Nat × Nat} (hs:Go.Wx.look τ.slcs T = some q) (hs':Go.Wx.look τ.slcs T' = some q') {ty:Nat} {args:Array Value} {w:World} {k:Value -> World -> Prop}
  (h:EvRun P (Builtin.append_ #[T,T] ty args) w k):EvRun P (Builtin.append_ #[T,T'] ty args) w k:=by
 obtain ⟨e,sz,bs⟩:=q;obtain ⟨e',sz',bs'⟩:=q';obtain ⟨h1,inf,hinf,_,_⟩:=hτ.slcs T e sz bs hs;have h2:=(hτ.slcs T' e' sz' bs' hs').1;unfold EvRun at h ⊢;obtain ⟨v,w',hr,hk⟩:=h;refine ⟨v,w',?_,hk⟩;rw [<- hr];unfold Builtin.append_;rcases args with ⟨_ | ⟨a,_ | ⟨b,r⟩⟩⟩
 ·rfl
 ·rfl
 ·cases a <;> simp [run_underlying h1,run_underlying h2,sizeOf,typeInfo,hinf]
section
variable {C:Mem} {w:World}
theorem pD' (hS:Sub C w) {l m:List (List Nd × List Nd)} {vl vm:Value} (hl:SV rBd C l vl) (hm:SV rBd C m vm) (h0:0 < m.length) (hll:l.length <= 1000) (hml:m.length <= 1000) :
  CC 58 #[vl,vm] w (fun e w'=>(∃ v,e = .returned v /\ SV rBd (Cn C w w') (l ++ m) v) /\ Kp [] w w'):=by
 refine oF Tryz.func58 ?_;obtain ⟨al,cl,rfl,hl1,hl2⟩:=hl;obtain ⟨am,cm,rfl,hm1,hm2⟩:=hm;refine cO (args:=[_,_]) 9 [.tmp 4] τok Tryz.func58 ?_;refine ab' (rh' (R:=rBd) rfl (C:=C) l al cl hl1 hl2) ?_;rintro e w1 ⟨⟨a1,rfl,hc1⟩,hk1⟩;refine wt' τok rfl rfl ?_;refine su' τok rfl rfl (by decide) (R:=rBd) (C:=C) (hS.tr hk1) hc1 hm1 h0 (by omega) (by unfold maxLen; omega) (by omega) fun v' w2 hv' hk2=>?_;have hv1:=hv'.one;exact ⟨⟨v',rfl,hv'.mono fun b o v h=>h.elim .inl fun h=>.inr ⟨KQ hk1.size h.1,h.2⟩⟩,hk1.tr hk2⟩
end
def JudC (C:Mem) (w:World) (bj:Nat) (B:BoT) (n:Nat):Prop :=
 ∃ v1 v2 v3,Bk w.heap bj [iV B.vars,v1,v2,iV B.nat,v3,iV (n:Int)] 98 /\ SV rOr C B.orders v1 /\ SV rEn C B.ents v2 /\ SV rPr C B.prims v3
theorem JudC.mono {C D:Mem} {w:World} {bj:Nat} {B:BoT} {n:Nat} (h:JudC C w bj B n) (hc:∀ b o v,C b o v -> D b o v):JudC D w bj B n:=by
 obtain ⟨v1,v2,v3,h0,h1,h2,h3⟩:=h;exact ⟨v1,v2,v3,h0,h1.mono hc,h2.mono hc,h3.mono hc⟩
theorem JudC.kp {C:Mem} {w w':World} {bj:Nat} {B:BoT} {n:Nat} (h:JudC C w bj B n) {X:List Nat} (k:Kp X w w') (hb:bj ∉ X):JudC C w' bj B n:=by
 obtain ⟨v1,v2,v3,h0,h1,h2,h3⟩:=h;exact ⟨v1,v2,v3,h0.kp k hb,h1,h2,h3⟩
theorem JudC.tr {X:List Nat} {w w':World} {bj:Nat} {B:BoT} {n:Nat} (h:JudC (Im X w) w bj B n) (k:Kp [] w w'):JudC (Im X w') w' bj B n:=(h.mono fun _ _ _ h=>h.tr k).kp k (by simp)
def JdP {α:Type} (D:World -> α -> Value -> Prop) (X:List Nat) (w:World) (bj:Nat) (B:BoT) (r:Except Int (α × Nat)) (e:Ending) (w':World):Prop :=
 (match r with
  | .ok q=>∃ u,e = .returned u /\ D w' q.1 u /\ JudC (Im X w') w' bj B q.2
  | .error er=>e = .panicked (dA' er)) /\ Kp [bj] w w'
def DSp (X:List Nat) (w':World) (x:Tr) (u:Value):Prop:=∃ h a,u = .tuple #[h,a] /\ TmV (Im X w') (headT x) h /\ TmsV (Im X w') (argsT x) a
section
variable {B:BoT} {cx:Ctx} {X:List Nat} {w:World} {bj:Nat} {n:Nat}
theorem fn' (hB:GoodB B) (hcx:CxOk B cx) (hcl:cx.length <= 260) (hX:XL X w) (hbj:bj ∈ X) (hJ:JudC (Im X w) w bj B n) (hn:n <= 100000) {x:Tr} (hx:Ft (QB B) (cx.length:Int) x) {vc v:Value} (hc:SV rBd (Im X w) (cx.map bdR) vc) (hv:TmV (Im X w) x v) :
  CC 61 #[pt bj,vc,v] w (JdP (DSp X) X w bj B (dM' B cx x n)):=by
 refine oF Tryz.func61 ?_;obtain ⟨RES,hRES⟩:∃ r,dM' B cx x n = r:=⟨_,rfl⟩
 rw [hRES];unfold dM' at hRES;obtain ⟨v1,v2,v3,hJb,hO,hE,hP⟩:=hJ;have hvv:=hv;obtain ⟨av,cv,rfl,_,_⟩:=hvv;have hCC:=hc;obtain ⟨ac,cc,rfl,_,_⟩:=hCC;have hlm:(cx.map bdR).length = cx.length:=by simp
 refine cO (args:=[_,_,_]) 37 [.tmp 6,.tmp 7] τok Tryz.func61 ?_
 by_cases g:256 < cx.length
 ·rw [if_pos g] at hRES
  subst hRES;refine ab' (pC' ac _ cc (by omega) w) ?_;rintro e w1 ⟨rfl,hk1⟩;exact ⟨rfl,hk1.weak (by simp)⟩
 rw [if_neg g] at hRES;refine ab' (pB' ac _ cc (by omega) w) ?_;rintro e w1 ⟨⟨v0,rfl⟩,hk1⟩;have hJ1:=hJb.kp hk1 (by simp);have tr1:∀ b o v,Im X w b o v -> Im X w1 b o v:=fun b o v h=>h.tr hk1;have hX1:=xU hX hk1;refine as' τok (fun z=>Kp [] w1 z) ?_;refine rV τok (rg 0 10) 8 (mR 18 10) (kQd w1) ?_;refine dP' [iV B.vars,v1,v2,iV B.nat,v3] rfl (fun j u hj=>by
  refine hJ1.cl ?_;rw [KW]
  match j,hj with
  | 0,hj=>exact hj
  | 1,hj=>exact hj
  | 2,hj=>exact hj
  | 3,hj=>exact hj
  | 4,hj=>exact hj
  | j + 5,hj=>cases hj) ?_
 refine lk hJ1 ?_;refine nV τok 10 7 (mR 18 11) ?_;refine ab' (mF' (w:=(dr w1)) (fuel:=(n:Int)) hB hcx (by omega) hX1 hx ⟨v1,v2,v3,rfl,hO.mono tr1,hE.mono tr1,hP.mono tr1⟩ (hc.mono tr1) (hv.mono tr1)) ?_;rintro e w2 ⟨he,hk2⟩;have hk2:Kp [] w1 w2:=hk2.rd;have k02:=hk1.tr hk2;cases hr:aM' B cx x (n:Int) with
 | error er =>
  rw [hr] at he hRES;subst hRES;have her:=gW' _ _ _ _ _ hr;subst he;refine ⟨.inl hk2,?_⟩;refine rV τok (rg 11 7) 0 (mR 18 18) hk2 ?_;refine dV ?_;refine ab' (aN' er (by omega) w2) ?_;rintro e w3 ⟨rfl,hk3⟩;exact ⟨rfl,(k02.tr hk3).weak (by simp)⟩
 | ok q =>
  rw [hr] at he hRES;subst hRES;obtain ⟨u,rfl,hu⟩:=he;have hq:=iC' hB hcx (by omega) hx hr;have hq2:=iA' hr;have hu':=hu;obtain ⟨au,cu,rfl,_,_⟩:=hu';refine ⟨.inl hk2,?_⟩;refine rV τok (rg 11 7) 0 (mR 18 18) hk2 ?_;refine dV ?_;refine ab' (hJ' w2) ?_;rintro e w3 ⟨⟨v5,rfl⟩,hk3⟩;have k03:=k02.tr hk3;refine st (b:=bj) (o:=5) (hJb.kp k03 (by simp)) (by simp) rfl fun w4 h4 hs4 hk4=>?_;have h4:Bk w4.heap bj [iV B.vars,v1,v2,iV B.nat,v3,iV (q.2:Int)] 98:=h4;have k04:Kp [bj] w w4:=(k03.weak (by simp)).tq hk4;have k24:Kp [bj] w2 w4:=(hk3.weak (by simp)).tq hk4;refine ab' (jf' (Im.sub X w4) (fun _ _ _ h=>h.hold) hq.1 (hu.mono (Im.kb k24 hbj))) ?_;rintro e w5 ⟨h5,z5,rfl,hh5,hz5,hk5⟩;have hX4:=xU hX k04;have k05:Kp [bj] w w5:=k04.tr hk5;have up:=Im.kb k05 hbj;have hh6:=hh5.tv hX4;have hz6:=hz5.tv hX4;have o1:=(TmV.sv.1 hh6).one;have o2:=(TmsV.sv.1 hz6).one;exact ⟨⟨_,rfl,⟨h5,z5,rfl,hh6,hz6⟩,v1,v2,v3,h4.kp hk5 (by simp),hO.mono up,hE.mono up,hP.mono up⟩,k05⟩
theorem jx' (hB:GoodB B) (hcx:CxOk B cx) (hcl:cx.length <= 260) (hX:XL X w) (hbj:bj ∈ X) (hJ:JudC (Im X w) w bj B n) (hn:n <= 100000) {x y:Tr} (hx:Ft (QB B) (cx.length:Int) x) (hy:Ft (QB B) (cx.length:Int) y) {vc v v':Value} (hc:SV rBd (Im X w) (cx.map bdR) vc) (hv:TmV (Im X w) x v) (hv':TmV (Im X w) y v') (u:Bool) :
  CC 83 #[pt bj,vc,v,v',.bool u] w (JdP (fun _ b z=>z = .bool b) X w bj B (dI' B cx x y u n)):=by
 refine oF Tryz.func83 ?_;obtain ⟨RES,hRES⟩:∃ r,dI' B cx x y u n = r:=⟨_,rfl⟩
 rw [hRES];unfold dI' at hRES;obtain ⟨v1,v2,v3,hJb,hO,hE,hP⟩:=hJ;obtain ⟨av,cv,rfl,_,_⟩:=id hv;obtain ⟨av',cv',rfl,_,_⟩:=id hv';obtain ⟨ac,cc,rfl,_,_⟩:=id hc;have hlm:(cx.map bdR).length = cx.length:=by simp
 refine cO (args:=[_,_,_,_,_]) 40 [.tmp 10] τok Tryz.func83 ?_
 by_cases g:256 < cx.length
 ·rw [if_pos g] at hRES
  subst hRES;refine ab' (pC' ac _ cc (by omega) w) ?_;rintro e w1 ⟨rfl,hk1⟩;exact ⟨rfl,hk1.weak (by simp)⟩
 rw [if_neg g] at hRES;refine ab' (pB' ac _ cc (by omega) w) ?_;rintro e w1 ⟨⟨v0,rfl⟩,hk1⟩;have hJ1:=hJb.kp hk1 (by simp);have tr1:∀ b o v,Im X w b o v -> Im X w1 b o v:=fun b o v h=>h.tr hk1;have hX1:=xU hX hk1;refine as' τok (fun z=>Kp [] w1 z) ?_;refine rV τok (rg 0 12) 8 (mR 20 12) (kQd w1) ?_;refine dP' [iV B.vars,v1,v2,iV B.nat,v3] rfl (fun j u hj=>by
  refine hJ1.cl ?_;rw [KW]
  match j,hj with
  | 0,hj=>exact hj
  | 1,hj=>exact hj
  | 2,hj=>exact hj
  | 3,hj=>exact hj
  | 4,hj=>exact hj
  | j + 5,hj=>cases hj) ?_
 refine lk hJ1 ?_;refine nV τok 12 7 (mR 20 13) ?_;refine ab' (nt' (w:=(dr w1)) (fuel:=(n:Int)) hB hcx hcl hX1 hx hy ⟨v1,v2,v3,rfl,hO.mono tr1,hE.mono tr1,hP.mono tr1⟩ (hc.mono tr1) (hv.mono tr1) (hv'.mono tr1) u) ?_;rintro e w2 ⟨he,hk2⟩;have hk2:Kp [] w1 w2:=hk2.rd;have k02:=hk1.tr hk2;cases hr:hA' B cx x y (n:Int) u with
 | error er =>
  rw [hr] at he hRES;subst hRES;obtain ⟨her,rfl⟩:=he;refine ⟨.inl hk2,?_⟩;refine rV τok (rg 13 7) 0 (mR 20 20) hk2 ?_;refine dV ?_;refine ab' (aN' er her w2) ?_;rintro e w3 ⟨rfl,hk3⟩;exact ⟨rfl,(k02.tr hk3).weak (by simp)⟩
 | ok q =>
  rw [hr] at he hRES;subst hRES;subst he;refine ⟨.inl hk2,?_⟩;refine rV τok (rg 13 7) 0 (mR 20 20) hk2 ?_;refine dV ?_;refine ab' (hJ' w2) ?_;rintro e w3 ⟨⟨v5,rfl⟩,hk3⟩;have k03:=k02.tr hk3;refine st (b:=bj) (o:=5) (hJb.kp k03 (by simp)) (by simp) rfl fun w4 h4 hs4 hk4=>?_;have h4:Bk w4.heap bj [iV B.vars,v1,v2,iV B.nat,v3,iV (q.2:Int)] 98:=h4;have k04:Kp [bj] w w4:=(k03.weak (by simp)).tq hk4;have up:=Im.kb k04 hbj;exact ⟨⟨_,rfl,rfl,v1,v2,v3,h4,hO.mono up,hE.mono up,hP.mono up⟩,k04⟩
end
theorem kH' {C:Mem} {w:World} (hS:Sub C w) (kind:Int) (hkd:I64 kind) (l:List Atom) (a:Option Addr) (c:Nat) (hl:Sl rAt C a l) (hll:l.length <= 1000) :
  CC 53 #[iV kind,.slice a l.length c] w (fun e w'=>(∃ v,e = .returned v /\ IsTm (et' kind l) w w' v) /\ Kp [] w w'):=by
 refine oF Tryz.func53 ?_;have hrow:row (et' kind l) = ⟨2,kind,(l.length:Int)⟩ :: l.map fun a=>⟨3,a.var,a.add⟩:=by
  unfold et';simp only [row]
  congr 1
  have:∀ (l:List Atom),rows (l.map fun a=>(.mk ⟨3,a.var,a.add⟩ []:Tr)) = l.map fun a=>⟨3,a.var,a.add⟩:=by
   intro l
   induction l with
   | nil=>rfl
   | cons b l ih=>simp [rows,row,ih]
  exact this l
 have hrl:(row (et' kind l)).length = l.length + 1:=by rw [hrow]; simp
 refine cO (args:=[_,_]) 29 [.tmp 4] τok Tryz.func53 ?_;refine fill [iV 2,iV kind,iV (l.length:Int)] rfl ?_;refine new fun b1 w1 hb1 h1 hs1 hk1=>?_;have hO1:Own rNd 45 w.heap.size w1 (.slice (some ⟨b1,0,none⟩) 1 1) [⟨2,kind,(l.length:Int)⟩] :=
  ⟨⟨[[iV 2,iV kind,iV (l.length:Int)]],jT' h1 (by omega) rfl (by decide),⟨⟨rfl,⟨by simp,by simp⟩,hkd,⟨by simp only; omega,by simp only; omega⟩⟩,trivial⟩⟩,hk1.size⟩
 refine lp τok (σ:=Nat × Value) (fun q=>[(5,q.2),(13,.slice a l.length c),(14,iV (l.length:Int)),(15,iV (q.1:Int))])
  (fun q w'=>q.1 <= l.length /\ Own rNd 45 w.heap.size w' q.2 (⟨2,kind,(l.length:Int)⟩ :: (l.map fun a=>⟨3,a.var,a.add⟩).take q.1) /\ Kp [] w w') (fun q=>l.length - q.1) (0,.slice (some ⟨b1,0,none⟩) 1 1) rfl
  ⟨rfl,rfl,rfl,rfl,trivial⟩ ⟨KV _,hO1,hk1⟩ ?_
 rintro ⟨i,v1⟩ w2 ⟨hi,hO,hk2⟩;simp only at hi hO;refine ac' (fun g=>?_) (fun g=>?_)
 ·have g:(i:Int) < l.length:=g
  obtain ⟨x,hx,_⟩:=af' (l:=l) (k:=i) (by omega);obtain ⟨b,o,rfl,c1,c2,i1,i2⟩:=rp' hl hx;have hlm:(l.map fun a=>(⟨3,a.var,a.add⟩:Nd))[i]? = some ⟨3,x.var,x.add⟩:=by rw [JX,hx]; rfl
  refine ix i rfl (by omega) ?_;refine ldN [iV x.var,iV x.add] rfl (fun j u hj=>hS.tr hk2 _ _ _ (by
   match j,hj with
   | 0,hj=>obtain rfl:=JB hj; exact c1
   | 1,hj=>obtain rfl:=JB hj; exact c2
   | j + 2,hj=>cases hj)) ?_
  refine new fun b5 w3 hb5 h5 hs3 hk3=>?_;refine stN (vs:=[iV x.var,iV x.add]) h5 rfl (by simp [Value.oneCell']) fun w4 h5 hs4 hk4=>?_;have k24:=hk3.newSt hb5 hk4;refine lb h5 ?_;refine lb h5 ?_;refine fill [iV 3,iV x.var,iV x.add] rfl ?_;refine new fun b6 w5 hb6 h6 hs5 hk5=>?_;have k25:=k24.tr hk5;have hlen5:((⟨2,kind,(l.length:Int)⟩:Nd) :: (l.map fun a=>(⟨3,a.var,a.add⟩:Nd)).take i).length = i + 1:=by simp; omega
  refine (hO.kp k25).ap1 τok rfl rfl (by decide) ⟨3,x.var,x.add⟩ [iV 3,iV x.var,iV x.add] ⟨rfl,⟨by simp,by simp⟩,i1,i2⟩ (bZ h6) (by rw [hlen5]; omega) (by rw [hlen5]; unfold maxLen; omega) fun v2 w6 hO6 hk6 _=>?_;refine i6 ?_;refine ⟨(i + 1,v2),by simp only; omega,rfl,⟨rfl,rfl,rfl,rfl,trivial⟩,by show i + 1 <= _; omega,?_,(hk2.tr k25).own hk6 (hO.kp k25)⟩;rw [al' hlm];exact hO6
 ·have g:¬ (i:Int) < l.length:=g
  rw [JG (by simp; omega),<- hrow] at hO;exact ⟨⟨v1,rfl,Own.isTm hO (by rw [hrl]; omega)⟩,hk2⟩
theorem JdP.cs {α:Type} {D:World -> α -> Value -> Prop} {X:List Nat} {w:World} {bj:Nat} {B:BoT} {r:Except Int (α × Nat)} {e:Ending} {w':World} (h:JdP D X w bj B r e w') :
  (∃ er,r = .error er /\ e = .panicked (dA' er) /\ Kp [bj] w w') \/ ∃ q u,r = .ok q /\ e = .returned u /\ D w' q.1 u /\ JudC (Im X w') w' bj B q.2 /\ Kp [bj] w w':=by
 obtain ⟨h,hk⟩:=h;cases r with
 | error er=>exact .inl ⟨er,rfl,h,hk⟩
 | ok q =>
  obtain ⟨u,rfl,hD,hJ⟩:=h;exact .inr ⟨q,u,rfl,rfl,hD,hJ,hk⟩
theorem Im.cn {X:List Nat} {w w':World} (hX:XL X w) (k:Kp [] w w'):∀ b o v,Cn (Im X w) w w' b o v -> Im X w' b o v:=fun b o v h=>h.elim (fun h=>h.tr k) fun h=>Im.of_new hX h
def Mt (k:Nat) (t:Tr):Prop:=∀ m ∈ row t,m.op = 11 -> m.a < (k:Int)
def nC' (B:BoT) (g:Nat) (rc:RcJ):Prop:=∀ (X:List Nat) (w:World) (bj:Nat) (cx:Ctx) (k:Nat) (t:Tr) (n:Nat) (vc v:Value),(XL X w) -> bj ∈ X -> CxOk B cx -> cx.length <= 260 -> JudC (Im X w) w bj B n -> n <= 100000 ->
 Ft (QB B) (cx.length:Int) t -> Mt k t -> k * 5000 + (row t).length <= g -> SV rBd (Im X w) (cx.map bdR) vc -> TmV (Im X w) t v ->
 CC 28 #[pt bj,vc,v] w (JdP (fun w' x u=>TmV (Im X w') x u) X w bj B (rc cx t n))
def DSo (X:List Nat) (w':World) (q:Int × List Atom) (u:Value):Prop:=∃ a c,u = .tuple #[iV q.1,.slice a q.2.length c] /\ Sl rAt (Im X w') a q.2
section
variable {B:BoT} {g k:Nat} {rc:RcJ} {cx:Ctx} {X:List Nat} {w:World} {bj:Nat} {n:Nat}
theorem fH' (hB:GoodB B) (hr:fR' B rc) (hrc:nC' B g rc) (hX:XL X w) (hbj:bj ∈ X) (hcx:CxOk B cx) (hcl:cx.length <= 260) (hJ:JudC (Im X w) w bj B n) (hn:n <= 100000) {t:Tr} (ht:Ft (QB B) (cx.length:Int) t) (hm:Mt k t) (hg:k * 5000 + (row t).length <= g)
  {vc v:Value} (hc:SV rBd (Im X w) (cx.map bdR) vc) (hv:TmV (Im X w) t v) :
  CC 57 #[pt bj,vc,v] w (JdP (DSo X) X w bj B (dY' B rc cx t n)):=by
 refine oF Tryz.func57 ?_;obtain ⟨RES,hRES⟩:∃ r,dY' B rc cx t n = r:=⟨_,rfl⟩
 rw [hRES];unfold dY' at hRES;obtain ⟨av,cv,rfl,_,_⟩:=id hv;obtain ⟨ac,cc,rfl,_,_⟩:=id hc;refine cO (args:=[_,_,_]) 37 [.tmp 6,.tmp 7] τok Tryz.func57 ?_;refine ab' (hrc X w bj cx k t n _ _ hX hbj hcx hcl hJ hn ht hm hg hc hv) ?_;rintro e w1 he;rcases he.cs with ⟨er,hq,rfl,hk1⟩ | ⟨q,u,hq,rfl,hu,hJ1,hk1⟩
 ·rw [hq] at hRES
  obtain rfl:.error er = RES:=hRES;exact ⟨rfl,hk1⟩
 rw [hq] at hRES;simp only [bdJ] at hRES;have hqf:=hr.ft _ _ _ _ hcx hcl ht hq;have hqn:=hr.le _ _ _ _ hq;have hX1:=xU hX hk1;obtain ⟨au,cu,rfl,_,_⟩:=id hu;refine ab' (fn' hB hcx hcl hX1 hbj hJ1 (by omega) hqf (hc.mono (Im.kb hk1 hbj)) hu) ?_;rintro e w2 he;rcases he.cs with ⟨er,hz,rfl,hk2⟩ | ⟨z,u,hz,rfl,hu,hJ2,hk2⟩
 ·rw [hz] at hRES
  obtain rfl:.error er = RES:=hRES;exact ⟨rfl,hk1.tq hk2⟩
 rw [hz] at hRES;simp only [bdJ] at hRES;have k02:Kp [bj] w w2:=hk1.tq hk2;obtain ⟨uh,ua,rfl,hh,ha⟩:=hu;obtain ⟨_,_,hzf⟩:=ea' hB hcx hqf hz;have hh':=hh;obtain ⟨bh,oh,ch,rfl,hi1,hi2,hi3,hhc⟩:=hh.hd;obtain ⟨aa,ca,rfl,_,_⟩:=id ha;refine ix 0 rfl (ag' _) ?_;refine ld (Im.sub X w2 _ _ _ (by simpa using hhc 0 _ rfl)).cell ?_;refine ac' (fun g1=>?_) (fun g1=>?_)
 ·have g1:(headT z.1).n.op ≠ 2:=g1
  rw [if_pos (.inl g1)] at hRES;subst hRES;refine ab' (aN' 11 (by decide) w2) ?_;rintro e w3 ⟨rfl,hk3⟩;exact ⟨rfl,k02.tr hk3⟩
 have g1:¬ (headT z.1).n.op ≠ 2:=g1;refine ac' (fun g2=>?_) (fun g2=>?_)
 ·have g2:(0:Int) < ((argsT z.1).length:Int):=g2
  rw [if_pos (.inr (by omega))] at hRES;subst hRES;refine ab' (aN' 11 (by decide) w2) ?_;rintro e w3 ⟨rfl,hk3⟩;exact ⟨rfl,k02.tr hk3⟩
 have g2:¬ (0:Int) < ((argsT z.1).length:Int):=g2;rw [if_neg (by omega)] at hRES;subst hRES;refine as' τok (fun z=>Kp [] w2 z) ?_;refine rV τok (rg 0 5) 3 (mR 8 5) (kQd w2) ?_;refine ix 0 rfl (ag' _) ?_;refine ldK (Im.sub X w2 _ _ _ (by simpa using hhc 1 _ rfl)) ?_;refine nV τok 5 2 (mR 8 6) ?_;refine ab' (eh' (C:=Im X w2) (w:=(dr w2)) (Im.sub X w2) hzf.head (by omega) hh') ?_;rintro e w3 ⟨al,cl,rfl,hl,hk3⟩;have hk3:Kp [] w2 w3:=hk3.rd;refine ⟨.inl hk3,?_⟩;refine rV τok [6,7] 0 (mR 8 8) hk3 ?_;refine dV ?_;have hX2:=xU hX k02;exact ⟨⟨_,rfl,⟨al,cl,rfl,hl.mono fun b o v h=>Im.of_new hX2 h⟩,hJ2.tr hk3⟩,k02.tr hk3⟩
theorem dn' (hB:GoodB B) (hr:fR' B rc) (hrc:nC' B g rc) (hX:XL X w) (hbj:bj ∈ X) (hcx:CxOk B cx) (hcl:cx.length <= 260) (hJ:JudC (Im X w) w bj B n) (hn:n <= 100000) {t ty:Tr} (ht:Ft (QB B) (cx.length:Int) t) (hm:Mt k t) (hg:k * 5000 + (row t).length <= g) (hty:Ft (QB B) (cx.length:Int) ty)
  {vc v vt:Value} (hc:SV rBd (Im X w) (cx.map bdR) vc) (hv:TmV (Im X w) t v) (hvt:TmV (Im X w) ty vt) :
  CC 62 #[pt bj,vc,v,vt] w (JdP (fun _ _ _=>True) X w bj B (cY' B rc cx t ty n)):=by
 refine oF Tryz.func62 ?_;obtain ⟨RES,hRES⟩:∃ r,cY' B rc cx t ty n = r:=⟨_,rfl⟩
 rw [hRES];unfold cY' at hRES;obtain ⟨av,cv,rfl,_,_⟩:=id hv;obtain ⟨at_,ct_,rfl,_,_⟩:=id hvt;obtain ⟨ac,cc,rfl,_,_⟩:=id hc;refine cO (args:=[_,_,_,_]) 18 [] τok Tryz.func62 ?_;refine ab' (hrc X w bj cx k t n _ _ hX hbj hcx hcl hJ hn ht hm hg hc hv) ?_;rintro e w1 he;rcases he.cs with ⟨er,hq,rfl,hk1⟩ | ⟨q,u,hq,rfl,hu,hJ1,hk1⟩
 ·rw [hq] at hRES
  obtain rfl:.error er = RES:=hRES;exact ⟨rfl,hk1⟩
 rw [hq] at hRES;simp only [bdJ] at hRES;have hqf:=hr.ft _ _ _ _ hcx hcl ht hq;have hqn:=hr.le _ _ _ _ hq;have hX1:=xU hX hk1;obtain ⟨au,cu,rfl,_,_⟩:=id hu;have up:=Im.kb hk1 hbj;refine ab' (jx' hB hcx hcl hX1 hbj hJ1 (by omega) hqf hty (hc.mono up) hu (hvt.mono up) true) ?_;rintro e w2 he;rcases he.cs with ⟨er,hz,rfl,hk2⟩ | ⟨z,u,hz,rfl,hu,hJ2,hk2⟩
 ·rw [hz] at hRES
  obtain rfl:.error er = RES:=hRES;exact ⟨rfl,hk1.tq hk2⟩
 rw [hz] at hRES;simp only [bdJ] at hRES;have k02:Kp [bj] w w2:=hk1.tq hk2;subst hu;obtain ⟨b,m⟩:=z;cases b with
 | true =>
  rw [if_pos rfl] at hRES;subst hRES;exact ⟨⟨_,rfl,trivial,hJ2⟩,k02⟩
 | false =>
  rw [if_neg (by simp)] at hRES;subst hRES;refine ab' (aN' 13 (by decide) w2) ?_;rintro e w3 ⟨rfl,hk3⟩;exact ⟨rfl,k02.tr hk3⟩
end
def PaP (C:Mem) (w:World) (r:Except Int Tr) (e:Ending) (w':World):Prop :=
 (match r with
  | .ok z=>∃ u,e = .returned u /\ TmV (Cn C w w') z u
  | .error er=>e = .panicked (dA' er)) /\ Kp [] w w'
theorem lL' {Q:Nd -> Prop} (hQ:Qk Q) {C:Mem} {w:World} (hS:Sub C w) (hold:∀ b o v,C b o v -> b < w.heap.size) {N:Int} (hN0:0 <= N) (hN:N <= 90000) {qs:List Tr} (hq:∀ y ∈ qs,Ft Q N y) (hql:qs.length <= 1000) {more:Nat} (hmo:more <= 1000) {t:Tr} (ht:Ft Q (N + qs.length + more) t)
  {vq vt:Value} (hvq:TmsV C qs vq) (hvt:TmV C t vt) :
  CC 106 #[vt,vq,iV (more:Int)] w (PaP C w (aS' qs more qs.length t)):=by
 refine oF Tryz.func106 ?_;obtain ⟨RES,hRES⟩:∃ r,aS' qs more qs.length t = r:=⟨_,rfl⟩
 rw [hRES];obtain ⟨aq,cq,rfl,_,_⟩:=id hvq;obtain ⟨at_,ct_,rfl,_,_⟩:=id hvt;refine cO (args:=[_,_,_]) 31 [.tmp 6] τok Tryz.func106 ?_;refine i6 ?_;refine lp τok (σ:=Nat × Tr × Value) (fun q=>[(0,q.2.2),(1,.slice aq qs.length cq),(2,iV (more:Int)),(7,iV ((q.1:Int) - 1))])
  (fun q w'=>q.1 <= qs.length /\ Ft Q (N + q.1 + more) q.2.1 /\ TmV (Cn C w w') q.2.1 q.2.2 /\ Kp [] w w' /\ aS' qs more q.1 q.2.1 = RES) (fun q=>q.1) (qs.length,t,_) rfl
  ⟨rfl,rfl,rfl,rfl,trivial⟩ ⟨KJ _,ht,hvt.mono fun _ _ _ h=>.inl h,Kp.refl _ _,hRES⟩ ?_
 clear hRES
 rintro ⟨j,z,uz⟩ w18 ⟨hj,hzF,huz,k018,hres⟩;simp only at hj hzF huz hres;refine ac' (fun g=>?_) (fun g=>?_)
 ·have g:(0:Int) <= (j:Int) - 1:=g
  obtain ⟨jj,rfl⟩:∃ jj,j = jj + 1:=⟨j - 1,by omega⟩
  have e0:((jj + 1:Nat):Int) - 1 = (jj:Int):=by omega
  rw [e0];simp only [aS'] at hres;obtain ⟨p,hp,_⟩:=af' (l:=qs) (k:=jj) (by omega);have egd:qs.getD jj (varX 0) = p:=by rw [List.getD_eq_getElem?_getD,hp]; rfl
  rw [egd] at hres;obtain ⟨bq,oq,cq',e7,zp,hzp,hzpT⟩:=hvq.get hp;injection e7 with q1 q2 q3
  subst q1 q3;have hpF:=hq p (JQ hp);have hlF:=hpF.lift hQ (b:=(jj:Int)) (by omega) (by omega) (by omega);obtain ⟨auz,cuz,rfl,_,_⟩:=id huz;refine ix jj rfl (by omega) ?_;refine ldC (hS.tr k018) hzp ?_;refine ab' (dG' (hS.tr k018) (Kp.hold k018 hold) hpF (by omega) hzpT (b:=(jj:Int)) (by omega)) ?_;rintro e w19 ⟨ul,rfl,hul,hk19⟩;have k019:=k018.tr hk19;have hul':TmV (Cn C w w19) (aq' p jj 0) ul:=hul.cn k018.size;obtain ⟨aul,cul,rfl,_,_⟩:=id hul';refine ab' (aC' _ ⟨_,_,_,rfl⟩ w19) ?_;rintro e w20 ⟨rfl,hk20⟩;have k1920:=hk20;have k020:=k019.tr hk20;refine ab' (jt' (Q:=Q) (N:=N + jj) (v:=more) (Cn.sub hS k020) (fun b o v h=>Cn.hold hold k020 h) (hzF.mono (by omega)) hlF (by omega) (huz.mono fun _ _ _ h=>h.up (hk19.tr hk20)) (hul'.mono fun _ _ _ h=>h.up hk20) (by omega)) ?_;rintro e w21 ⟨he,hk21⟩;have k021:=k020.tr hk21;cases hs:ay' z (aq' p jj 0) more with
  | error er =>
   rw [hs] at he hres;obtain ⟨rfl,her⟩:=he;have hres:(.error er:Except Int Tr) = RES:=hres;subst hres;refine ab' (bm' _ ⟨_,_,_,rfl⟩ er her w21) ?_;rintro e w22 ⟨rfl,hk22⟩;exact ⟨rfl,k021.tr hk22⟩
  | ok y =>
   rw [hs] at he hres;obtain ⟨uy,rfl,huy⟩:=he;have hres:aS' qs more jj y = RES:=hres;have hyF:=az' hQ (N:=N + jj) (v:=more) (hzF.mono (by omega)) hlF (by omega) (by omega) (by omega) (by omega) hs;obtain ⟨auy,cuy,rfl,_,_⟩:=id huy;refine ab' (aC' _ ⟨_,_,_,rfl⟩ w21) ?_;rintro e w22 ⟨rfl,hk22⟩;refine i6 ?_;exact ⟨(jj,y,_),by simp only; omega,rfl,⟨rfl,rfl,rfl,rfl,trivial⟩,by show jj <= _; omega,hyF.mono (by simp only; omega),huy.mono fun b o v h=>Cn.up hk22 (Cn.two (D:=C) hk21 k020.size h),k021.tr hk22,hres⟩
 ·have g:¬ (0:Int) <= (j:Int) - 1:=g
  obtain rfl:j = 0:=by omega
  simp only [aS'] at hres;subst hres;obtain ⟨auz,cuz,rfl,_,_⟩:=id huz;exact ⟨⟨_,rfl,huz⟩,k018⟩
end Go.Proofs.YtpealcfjbcpoiaaGreat
