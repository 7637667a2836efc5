import Derived.Test.YtdfmgkaecdkhnaaGreatMt23
import Derived.Test.YtdfmgkaecdkhnaaGreatRows
import Derived.ProofKit
import Derived.OpenShut
import Derived.Deep.Slices
import Derived.JoinedCond
import Derived.Carry
set_option linter.unusedVariables false
set_option linter.unusedSimpArgs false
set_option maxRecDepth 100000
set_option maxHeartbeats 4000000
namespace Go.Proofs.YtdfmgkaecdkhnaaGreat
open Go.Wx Cd Tm Lv
theorem wu' {h:Int -> Nd -> Option Tr} {a b:Tr} {d nb:Int}:gT h (.mk ⟨4,0,0⟩ [a,b]) d nb = (gT h a d 0).bind fun a'=>(gT h b (d + 1) 0).map fun b'=>.mk ⟨4,0,0⟩ [a',b']:=by
 simp only [gT,gK,arC,br'];simp;cases gT h a d 0 with
 | none=>rfl
 | some a' =>
  simp only [Option.bind_some];cases gT h b (d + 1) 0 with
  | none=>rfl
  | some b'=>rfl
theorem rg' {a b:Tr} {c f:Int} (ha:Ok .tm a) (hb:Ok .tm b) (sa:cB' a) (sb:cB' b) (hp:Ok .tm (.mk ⟨4,0,0⟩ [a,b])) (sp:cB' (.mk ⟨4,0,0⟩ [a,b])) (hc:c <= 500000):al' (.mk ⟨4,0,0⟩ [a,b]) c f = .mk ⟨4,0,0⟩ [al' a c f,al' b c (f + 1)]:=by
 have e0:=ax' hp sp (by_:=c) (fr:=f) hc;have e1:=ax' ha sa (by_:=c) (fr:=f) hc;have e2:=ax' hb sb (by_:=c) (fr:=f + 1) hc;unfold gv' at e0 e1 e2;rw [wu',e1] at e0;have hsh:gT (aH' c f) b (0 + 1) 0 = some (al' b c (f + 1)):=by
  rw [<- fz' (h:=aH' c f) 1,<- e2]
  congr 1
  funext d n
  unfold aH';rw [show f + (d + 1) = f + 1 + d by omega]
 rw [hsh] at e0;simp only [Option.bind_some,Option.map_some,Option.some.injEq] at e0;exact e0.symm
theorem uV' {a b:Tr}:headT (.mk ⟨4,0,0⟩ [a,b]) = .mk ⟨4,0,0⟩ [a,b] /\ argsT (.mk ⟨4,0,0⟩ [a,b]) = []:=⟨bm' (by simp),bA' (by simp)⟩
section
variable {B:BoT} {cx:Ctx}
theorem rh' {g n:Nat} {f a d c:Tr} (hn:n <= 100000) (hf:Alw (aj' B g cx f n)) (hfo:∀ ty m,aj' B g cx f n = .ok (ty,m) -> m <= n /\ ty = .mk ⟨4,0,0⟩ [d,c])
  (hck:∀ m,m <= 100000 -> (∃ m',bq' B (aj' B g) cx a d m = .ok ((),m') /\ m' <= m) \/ ∃ e,bq' B (aj' B g) cx a d m = .error e /\ (e = 10 \/ e = 9 \/ e = 6 \/ e = 5)) :
  Alw (aj' B (g + 1) cx (.mk ⟨6,0,0⟩ [f,a]) n) /\ ∀ ty m,aj' B (g + 1) cx (.mk ⟨6,0,0⟩ [f,a]) n = .ok (ty,m) -> m <= n /\ ty = be' c a 0:=by
 have hi:aj' B (g + 1) cx (.mk ⟨6,0,0⟩ [f,a]) n = qm' B (aj' B g) cx (.mk ⟨6,0,0⟩ [f,a]) n:=rfl;have k0:kidD (.mk ⟨6,0,0⟩ [f,a]) 0 = f:=rfl;have k1:kidD (.mk ⟨6,0,0⟩ [f,a]) 1 = a:=rfl;rw [hi];unfold qm';rw [k0,k1];cases h1:aj' B g cx f n with
 | error e =>
  simp only [bdJ];exact ⟨fun e' h=>hf e' (by rw [h1]; exact h),fun ty m h=>by cases h⟩
 | ok q =>
  obtain ⟨ty,m⟩:=q;obtain ⟨hm,rfl⟩:=hfo ty m h1;obtain ⟨p1,p2⟩:=uV' (a:=d) (b:=c);have p3:(Tr.mk ⟨4,0,0⟩ [d,c]).n.op = 4:=rfl;simp only [bdJ];rcases whnf_stay (B:=B) (cx:=cx) (x:=.mk ⟨4,0,0⟩ [d,c]) (n:=m) (by omega) (by rw [p1,p3]; decide) (by rw [p1,p3]; decide) (by rw [p1,p3]; decide) (by rw [p1,p3]; decide) (by rw [p1,p3]; decide) (by rw [p1,p3]; decide) with h2 | h2
  ·rw [h2]
   simp only;rw [p1,p2,if_neg (by rw [p3]; simp)];have kd0:kidD (.mk ⟨4,0,0⟩ [d,c]) 0 = d:=rfl;have kd1:kidD (.mk ⟨4,0,0⟩ [d,c]) 1 = c:=rfl;rw [kd0,kd1];rcases hck m (by omega) with ⟨m',h3,hm'⟩ | ⟨e,h3,he⟩
   ·rw [h3]
    simp only;cases h4:aA' c a 0 with
    | error e =>
     simp only [puJ];refine ⟨Alw.er ?_,fun ty m h=>by cases h⟩;unfold aA' at h4;split at h4
     ·injection h4 with h4
      omega
     ·cases h4
    | ok z =>
     simp only [puJ];refine ⟨Alw.ok,fun ty m h=>?_⟩;injection h with h
     injection h with h h'
     subst h h';exact ⟨by omega,jk' h4⟩
   ·rw [h3]
    exact ⟨Alw.er he,fun ty m h=>by cases h⟩
  ·rw [h2]
   exact ⟨Alw.er (.inr (.inr (.inr rfl))),fun ty m h=>by cases h⟩
theorem ri' {g m:Nat} {k:Int} (hm:m <= 100000):(∃ m',bq' B (aj' B g) cx (varX k) (al' (lM' cx k).1 (k + 1) 0) m = .ok ((),m') /\ m' <= m) \/ ∃ e,bq' B (aj' B g) cx (varX k) (al' (lM' cx k).1 (k + 1) 0) m = .error e /\ (e = 10 \/ e = 9 \/ e = 6 \/ e = 5):=by
 cases g with
 | zero=>exact .inr ⟨10,rfl,.inl rfl⟩
 | succ g =>
  have hi:aj' B (g + 1) cx (varX k) m = .ok (al' (lM' cx k).1 (k + 1) 0,m):=rfl;unfold bq';rw [hi];simp only [bdJ];unfold eb'
  by_cases hc:256 < cx.length
  ·rw [if_pos hc]
   exact .inr ⟨5,rfl,.inr (.inr (.inr rfl))⟩
  ·rw [if_neg hc]
   unfold hZ';have hcl:aS' (m:Int) = m:=by unfold aS'; omega
   rw [hcl];obtain ⟨gc,hgc⟩:∃ gc,GC = gc + 1:=⟨GC - 1,by have:=wh'; omega⟩
   rw [hgc];simp only [mn']
   by_cases h0:m = 0
   ·rw [if_pos h0]
    exact .inr ⟨10,rfl,.inl rfl⟩
   ·rw [if_neg h0,if_pos trivial]
    exact .inl ⟨m - 1,rfl,by omega⟩
end
theorem eS':∀ (l:List Tr) (x y:Tr),ai' x (l ++ [y]) = .mk ⟨6,0,0⟩ [ai' x l,y]
 | [],x,y=>rfl
 | z :: l,x,y=>eS' l _ y
theorem mH' {Q:Nd -> Prop} {x:Tr} (hx:Ft Q 0 x) (b:Int):al' x b 0 = x:=by
 have:gT (aH' b 0) x 0 0 = some x:=mG' x .tm 0 0 hx.ok.1 fun q hq n h1 hp hn=>by
  have:=hx.bl q hq;rw [<- hn] at this;unfold aH';rw [if_neg (by omega)]
 unfold al' gv';rw [this]
 rfl
section
variable {B:BoT} {cx:Ctx}
theorem jl' {Y:List Tr} {s:Tr} {np na:Nat} {e:Int} (hT:∀ T,iv' B e = .ok T -> T = aB' 4 Y s) (hE:∀ er,iv' B e = .error er -> er = 9) (hRF:∀ i,i <= Y.length -> Ft (QB B) (i:Int) (aB' 4 (Y.drop i) s)) (hnp:np <= Y.length) (hL:cx.length = np + na) (hlen:np + na <= 64)
  (hcx:∀ i,i < np -> ∃ P o,cx[i]? = some (P,o) /\ Y[i]? = some P):∀ i,i <= np -> ∀ g n,n <= 100000 -> Alw (aj' B g cx (ai' (.mk ⟨9,e,0⟩ []) ((varsM np (na:Int)).take i)) n) /\ ∀ ty m,aj' B g cx (ai' (.mk ⟨9,e,0⟩ []) ((varsM np (na:Int)).take i)) n = .ok (ty,m) -> m <= n /\ ty = al' (aB' 4 (Y.drop i) s) ((np + na - i:Nat):Int) 0
 | 0,_,g,n,hn=>by
  rw [List.take_zero,List.drop_zero];cases g with
  | zero=>exact ⟨Alw.er (.inl rfl),fun ty m h=>by cases h⟩
  | succ g =>
   have hi:aj' B (g + 1) cx (ai' (.mk ⟨9,e,0⟩ []) []) n = puJ (iv' B e) n:=rfl;rw [hi];cases h1:iv' B e with
   | error er =>
    simp only [puJ];exact ⟨Alw.er (by rw [hE er h1]; omega),fun ty m h=>by cases h⟩
   | ok T =>
    simp only [puJ];refine ⟨Alw.ok,fun ty m h=>?_⟩;injection h with h
    injection h with h h'
    subst h h';have hc:=hRF 0 (by omega);rw [List.drop_zero] at hc;exact ⟨KJ _,by rw [mH' hc]; exact hT T h1⟩
 | i + 1,hi,g,n,hn=>by
  have hvl:(varsM np (na:Int)).length = np:=by simp [varsM]
  have hva:(varsM np (na:Int))[i]? = some (varX ((na:Int) + ((np - 1 - i:Nat):Int))):=by
   unfold varsM;rw [JX,List.getElem?_range (by omega)]
   rfl
  rw [aq' hva,eS'];cases g with
  | zero=>exact ⟨Alw.er (.inl rfl),fun ty m h=>by cases h⟩
  | succ g =>
   obtain ⟨a1,a2⟩:=jl' hT hE hRF hnp hL hlen hcx i (by omega) g n hn;obtain ⟨P,o,hc,hy⟩:=hcx i (by omega);have hil:=ak' hy;have hd:Y.drop i = P :: Y.drop (i + 1):=by
    obtain ⟨z,hz,hd⟩:=af' (l:=Y) (k:=i) hil;rw [hy] at hz;obtain rfl:=JB hz;exact hd
   have hF:=hRF i (by omega);rw [hd] at hF a2;have hF1:=hRF (i + 1) (by omega);have hb:aB' 4 (P :: Y.drop (i + 1)) s = .mk ⟨4,0,0⟩ [P,aB' 4 (Y.drop (i + 1)) s]:=rfl;obtain ⟨_,k0,_⟩:=bR' hF (.inl rfl);have k0:Ft (QB B) (i:Int) P:=k0;rw [hb] at hF;have hlp:=rg' (c:=((np + na - i:Nat):Int)) (f:=0) k0.ok hF1.ok (k0.small (by omega)) (hF1.small (by omega)) hF.ok (hF.small (by omega)) (by omega);have hk:((na:Int) + ((np - 1 - i:Nat):Int)) + 1 = ((np + na - i:Nat):Int):=by omega
   have hat:(lM' cx ((na:Int) + ((np - 1 - i:Nat):Int))).1 = P:=by
    unfold lM';rw [List.getD_eq_getElem?_getD,show cx.length - 1 - ((na:Int) + ((np - 1 - i:Nat):Int)).toNat = i by omega,hc]
    rfl
   obtain ⟨b1,b2⟩:=rh' (B:=B) (cx:=cx) (g:=g) (n:=n) (f:=ai' (.mk ⟨9,e,0⟩ []) ((varsM np (na:Int)).take i)) (a:=varX ((na:Int) + ((np - 1 - i:Nat):Int))) (d:=al' P ((np + na - i:Nat):Int) 0) (c:=al' (aB' 4 (Y.drop (i + 1)) s) ((np + na - i:Nat):Int) 1) hn a1 (fun ty m h=>by
    obtain ⟨h1,h2⟩:=a2 ty m h;exact ⟨h1,by rw [h2,hb,hlp]; rfl⟩) (fun m hm=>by
    have:=ri' (B:=B) (cx:=cx) (g:=g) (m:=m) (k:=(na:Int) + ((np - 1 - i:Nat):Int)) hm;rw [hat,hk] at this;exact this)
   refine ⟨b1,fun ty m h=>?_⟩;obtain ⟨c1,c2⟩:=b2 ty m h;refine ⟨c1,?_⟩;rw [c2,<- hk,iB' hF1.ok (hF1.small (by omega)) (by omega)]
   congr 1
   omega
theorem nZ' (hB:GoodB B) {qi go:List Tr} {s F:Tr} {na np:Nat} (hnp:np <= 16) (hna:na <= 16) (hq:qi.length = go.length) (hg16:go.length <= 16)
  (hgo:∀ y ∈ go,Ft (QB B) ((np + na:Nat):Int) y) (hRF:∀ j,j <= qi.length -> Ft (QB B) ((np + j:Nat):Int) (aB' 4 (qi.drop j) s))
  (hF:∀ g n,n <= 100000 -> Alw (aj' B g cx F n) /\ ∀ ty m,aj' B g cx F n = .ok (ty,m) -> m <= n /\ ty = al' (aB' 4 qi s) (na:Int) 0)
  (hck:∀ (j:Nat) o,go[j]? = some o -> ∃ want n0 n1,io' qi go na j = .ok want /\ bv' B cx o want ((n0:Nat):Int) = .ok ((),n1)) :
  ∀ j,j <= go.length -> ∀ g n,g <= GJ -> n <= 100000 -> Alw (aj' B g cx (ai' F (go.take j)) n) /\ ∀ ty m,aj' B g cx (ai' F (go.take j)) n = .ok (ty,m) -> m <= n /\ gT (fA' go j) (al' (aB' 4 (qi.drop j) s) (na:Int) (j:Int)) 0 0 = some ty
 | 0,_,g,n,hg,hn=>by
  rw [List.take_zero,List.drop_zero];obtain ⟨a1,a2⟩:=hF g n hn;refine ⟨a1,fun ty m h=>?_⟩;obtain ⟨c1,rfl⟩:=a2 ty m h;have h0:=hRF 0 (by omega);rw [List.drop_zero] at h0;exact ⟨c1,nX' (da' h0.ok (h0.small (by omega)) (by omega) (by omega)) go⟩
 | j + 1,hj,g,n,hg,hn=>by
  obtain ⟨o,ho,_⟩:=af' (l:=go) (k:=j) (by omega);have hoD:go.getD j (varX 0) = o:=by simp [ho]
  rw [aq' ho,eS'];cases g with
  | zero=>exact ⟨Alw.er (.inl rfl),fun ty m h=>by cases h⟩
  | succ g =>
   obtain ⟨a1,a2⟩:=nZ' hB hnp hna hq hg16 hgo hRF hF hck j (by omega) g n (by omega) hn;obtain ⟨q,hqy,hd⟩:=af' (l:=qi) (k:=j) (by omega);have hqD:qi.getD j (varX 0) = q:=by simp [hqy]
   have hFj:=hRF j (by omega);have hF1:=hRF (j + 1) (by omega);rw [hd] at hFj a2;have hb:aB' 4 (q :: qi.drop (j + 1)) s = .mk ⟨4,0,0⟩ [q,aB' 4 (qi.drop (j + 1)) s]:=rfl;obtain ⟨_,k0,_⟩:=bR' hFj (.inl rfl);have k0:Ft (QB B) ((np + j:Nat):Int) q:=k0;rw [hb] at hFj;have hlp:=rg' (c:=(na:Int)) (f:=(j:Int)) k0.ok hF1.ok (k0.small (by omega)) (hF1.small (by omega)) hFj.ok (hFj.small (by omega)) (by omega);obtain ⟨want,n0,n1,hw,hct⟩:=hck j o ho;have hqF:Ft (QB B) ((np + na + j:Nat):Int) (al' q (na:Int) (j:Int)):=by
    have:=k0.liftF (qk B) (by omega) (b:=(na:Int)) (f:=(j:Int)) (by omega) (by omega)
    rwa [show ((np + j:Nat):Int) + (na:Int) = ((np + na + j:Nat):Int) by omega] at this
   have hxF:Ft (QB B) ((np + na + (j + 1):Nat):Int) (al' (aB' 4 (qi.drop (j + 1)) s) (na:Int) ((j:Int) + 1)):=by
    have:=hF1.liftF (qk B) (by omega) (b:=(na:Int)) (f:=(j:Int) + 1) (by omega) (by omega)
    rwa [show ((np + (j + 1):Nat):Int) + (na:Int) = ((np + na + (j + 1):Nat):Int) by omega] at this
   have hms:gT (fA' go j) (al' q (na:Int) (j:Int)) 0 0 = some want:=by
    unfold io' at hw;rw [hqD] at hw;exact nY' (qk B) (N:=np + na) (by omega) hgo j _ _ (by omega) (by omega) hqF hw
   have key:∀ ty m,aj' B g cx (ai' F (go.take j)) n = .ok (ty,m) -> m <= n /\ ∃ c,gT (fA' go j) (al' (aB' 4 (qi.drop (j + 1)) s) (na:Int) ((j:Int) + 1)) 1 0 = some c /\ ty = .mk ⟨4,0,0⟩ [want,c]:=fun ty m h=>by
    obtain ⟨h1,h2⟩:=a2 ty m h;rw [hb,hlp,wu',hms] at h2;simp only [Option.bind_some,Option.map_eq_some_iff,Int.zero_add] at h2;obtain ⟨c,h3,h4⟩:=h2;exact ⟨h1,c,h3,h4.symm⟩
   cases hc:gT (fA' go j) (al' (aB' 4 (qi.drop (j + 1)) s) (na:Int) ((j:Int) + 1)) 1 0 with
   | none =>
    have hno:∀ ty m,aj' B g cx (ai' F (go.take j)) n ≠ .ok (ty,m):=fun ty m h=>by
     obtain ⟨_,c,h3,_⟩:=key ty m h;rw [hc] at h3;cases h3
    have hi:aj' B (g + 1) cx (.mk ⟨6,0,0⟩ [ai' F (go.take j),o]) n = qm' B (aj' B g) cx (.mk ⟨6,0,0⟩ [ai' F (go.take j),o]) n:=rfl;have k0':kidD (.mk ⟨6,0,0⟩ [ai' F (go.take j),o]) 0 = ai' F (go.take j):=rfl;rw [hi];unfold qm';rw [k0'];cases h1:aj' B g cx (ai' F (go.take j)) n with
    | error er=>exact ⟨fun e' h=>a1 e' (by rw [h1]; exact h),fun ty m h=>by cases h⟩
    | ok q=>exact absurd h1 (hno q.1 q.2)
   | some c =>
    obtain ⟨b1,b2⟩:=rh' (B:=B) (cx:=cx) (g:=g) (n:=n) (f:=ai' F (go.take j)) (a:=o) (d:=want) (c:=c) hn a1 (fun ty m h=>by
     obtain ⟨h1,c',h3,h4⟩:=key ty m h;rw [hc] at h3;obtain rfl:=JB h3;exact ⟨h1,h4⟩) (fun m hm=>by
     rcases check_any hct (g:=g) (by omega) m hm with h | h
     ·exact .inl h
     ·exact .inr ⟨10,h,.inl rfl⟩)
    refine ⟨b1,fun ty m h=>?_⟩;obtain ⟨c1,c2⟩:=b2 ty m h;refine ⟨c1,?_⟩;have hst:=ta' (Q:=QB B) (N:=np + na) (by omega) hgo (j:=j) (by omega) (by omega) hxF.ok (hxF.sm (by omega)) hc;rw [hoD] at hst;have hco:Ok .tm c:=(tI' (Q:=QB B) (N:=np + na) (by omega) hgo (j:=j) (by omega) hxF.ok hc).1;have e1:=aY' (u:=o) hco 0;rw [e1] at hst;rw [c2,hst]
    congr 1
end
abbrev CxR:=List (List Nd × List Nd)
def typeI (B:BoT) (c:CxR) (t:List Nd) (fuel:Int):Except Int (Tr × Nat):=if dr' B c t ≠ 0 then .error (dr' B c t) else fS' B (cxR c) (tr t) fuel
def checkI (B:BoT) (c:CxR) (t ty:List Nd) (fuel:Int):Except Int (Unit × Nat):=if dr' B c t ≠ 0 then .error (dr' B c t) else if dr' B c ty ≠ 0 then .error (dr' B c ty) else bv' B (cxR c) (tr t) (tr ty) fuel
def kn' (B:BoT) (c:CxR) (t:List Nd) (fuel:Int):Except Int ((Int × List Atom) × Nat):=if dr' B c t ≠ 0 then .error (dr' B c t) else bx' B (cxR c) (tr t) fuel
def whnfI (B:BoT) (c:CxR) (t:List Nd) (fuel:Int):Except Int (Tr × Nat):=if dr' B c t ≠ 0 then .error (dr' B c t) else whnfTop B (cxR c) (tr t) fuel
theorem rj' (c:CxR):(cxR c).length = c.length:=by simp [cxR]
section
variable {B:BoT} {X:List Nat} {w:World} {c:CxR} {t ty:List Nd}
theorem tb' (hX:XL X w) {fuel:Int} {vb vc v:Value} (hb:BoV (Im X w) B vb) (hc:SV rBd (Im X w) c vc) (hv:SV rNd (Im X w) t v) :
  CC 17 #[vb,vc,v,.int .i64 fuel] w (fun e w'=>mA' (kn' B c t fuel) (fun q=>∃ a c,e = .returned (.tuple #[.int .i64 q.1.1,.slice a q.1.2.length c,.int .i64 (q.2:Int),.int .i64 0]) /\ Sl rAt (Im X w') a q.1.2) (fun er=>e = .returned (.tuple #[.int .i64 0,.slice none 0 0,.int .i64 0,.int .i64 er])) /\ Kp [] w w'):=by
 refine oF Tryz.func17 ?_;obtain ⟨RES,hRES⟩:∃ r,kn' B c t fuel = r:=⟨_,rfl⟩
 rw [hRES];unfold kn' at hRES;have hbb:=hb;obtain ⟨v1,v2,v3,rfl,_,_,_⟩:=hbb;obtain ⟨av,cv,rfl,_,_⟩:=id hv;obtain ⟨ac,cc,rfl,_,_⟩:=id hc;refine cO (args:=[_,_,_,_]) 29 [.tmp 8,.tmp 9,.tmp 10,.tmp 11] τok Tryz.func17 ?_;refine new fun b4 w1 hb4 h4 hs1 hk1=>?_;have h4:Bk w1.heap b4 [.int .i64 B.vars,v1,v2,.int .i64 B.nat,v3] 26:=h4;have up1:∀ b o v,Im X w b o v -> Im X w1 b o v:=fun b o v h=>h.tr hk1;refine ldN [.int .i64 B.vars,v1,v2,.int .i64 B.nat,v3] rfl (bZ h4) ?_;refine ab' (sM' (Im.sub X w1) (fun _ _ _ h=>h.hold) (hb.mono up1) (hc.mono up1) (hv.mono up1)) ?_;rintro e w2 ⟨rfl,hk2⟩;have k02:=hk1.tr hk2;have h4:=h4.kp hk2 (by simp);refine ac' (fun g1=>?_) (fun g1=>?_)
 ·have g1:dr' B c t ≠ 0:=g1
  rw [if_pos g1] at hRES;subst hRES;exact ⟨rfl,k02⟩
 have g1:¬ dr' B c t ≠ 0:=g1;rw [if_neg g1] at hRES;obtain ⟨hB,hr,hl,hce,hcx,hte,hft⟩:=sH' (Decidable.not_not.1 g1);have up2:∀ b o v,Im X w b o v -> Im X w2 b o v:=fun b o v h=>h.tr k02;have hX2:=xU hX k02;refine ldN [.int .i64 B.vars,v1,v2,.int .i64 B.nat,v3] rfl (bZ h4) ?_;refine ab' (qA' (cx:=cxR c) (t:=tr t) (fuel:=fuel) hB hcx (by rw [rj']; omega) hX2 (by rw [rj']; exact hft) (hb.mono up2) (by rw [<- hce]; exact hc.mono up2) (by unfold TmV; rw [<- hte]; exact hv.mono up2)) ?_;rintro e w3 ⟨he,hk3⟩;rw [hRES] at he;cases RES with
 | error er =>
  obtain rfl:=he;exact ⟨rfl,k02.tr hk3⟩
 | ok q =>
  obtain ⟨a,c,rfl,hu⟩:=he;exact ⟨⟨a,c,rfl,hu⟩,k02.tr hk3⟩
end
theorem is' (op:Int):∀ (a b:List Tr) (x:Tr),aB' op (a ++ b) x = aB' op a (aB' op b x)
 | [],_,_=>rfl
 | y :: a,b,x=>by simp only [List.cons_append,aB',is' op a b x]
theorem fW':∀ (a b:List Tr) (x:Tr),ai' x (a ++ b) = ai' (ai' x a) b
 | [],_,_=>rfl
 | y :: a,b,x=>fW' a b _
theorem ei' {Q:Nd -> Prop}:∀ (ys:List Tr) (N:Int) (x:Tr),Ft Q N (aB' 4 ys x) -> Ft Q (N + ys.length) x
 | [],N,x,h=>by simpa [aB'] using h
 | y :: r,N,x,h=>by
  obtain ⟨_,_,k1⟩:=bR' h (.inl rfl);have k1:Ft Q (N + 1) (aB' 4 r x):=k1;have:=ei' r (N + 1) x k1;exact this.mono (by simp; omega)
section
variable {B:BoT} {cx:Ctx}
theorem tJ' {F:Tr}:∀ (l:List Tr) (F:Tr),(∀ g n,Alw (aj' B g cx F n) /\ ∀ q,aj' B g cx F n ≠ .ok q) -> ∀ g n,Alw (aj' B g cx (ai' F l) n) /\ ∀ q,aj' B g cx (ai' F l) n ≠ .ok q
 | [],F,h,g,n=>h g n
 | y :: r,F,h,g,n=>tJ' (F:=F) r (.mk appN [F,y]) (fun g n=>by
   cases g with
   | zero=>exact ⟨Alw.er (.inl rfl),fun q h=>by cases h⟩
   | succ g =>
    have hi:aj' B (g + 1) cx (.mk appN [F,y]) n = qm' B (aj' B g) cx (.mk appN [F,y]) n:=rfl;have k0:kidD (.mk appN [F,y]) 0 = F:=rfl;obtain ⟨a1,a2⟩:=h g n;rw [hi];unfold qm';rw [k0];cases h1:aj' B g cx F n with
    | error e=>exact ⟨fun e' h=>a1 e' (by rw [h1]; exact h),fun q h=>by cases h⟩
    | ok q=>exact absurd h1 (a2 q)) g n
theorem rk' {F:Tr} {g n:Nat} (hn:n <= 100000) (h1:Alw (aj' B g cx F n)) (h2:∀ ty m,aj' B g cx F n = .ok (ty,m) -> m <= n /\ ty.n.op = 2):Alw (bt' B (aj' B g) cx F n):=by
 unfold bt';refine wr' h1 fun ty m h=>?_;obtain ⟨hm,ho⟩:=h2 ty m h;obtain ⟨nd,ks⟩:=ty;have ho:nd.op = 2:=ho;have p1:headT (.mk nd ks) = .mk nd ks:=bm' (by omega);have p2:argsT (.mk nd ks) = []:=bA' (by omega);have p3:(Tr.mk nd ks).n.op = 2:=ho;rcases whnf_stay (B:=B) (cx:=cx) (x:=.mk nd ks) (n:=m) (by omega) (by rw [p1,p3]; decide) (by rw [p1,p3]; decide) (by rw [p1,p3]; decide) (by rw [p1,p3]; decide) (by rw [p1,p3]; decide) (by rw [p1,p3]; decide) with h | h
 ·rw [h]
  simp only [bdJ];rw [p1,p2,if_neg (by rw [p3]; simp)];exact Alw.ok
 ·rw [h]
  exact Alw.er (.inr (.inr (.inr rfl)))
theorem it' {e:Int}:∀ (l:List Tr) (cx:Ctx) (n:Nat) (q:Ctx × Nat),fV' B e l cx n = .ok q -> ∀ (i:Nat) y,l[i]? = some y -> ∃ n0 n1 p,bx' B (cx ++ bJ' (l.take i)) y ((n0:Nat):Int) = .ok (p,n1)
 | [],cx,n,q,h,i,y,hy=>by simp at hy
 | x :: r,cx,n,q,h,i,y,hy=>by
  simp only [fV'] at h;obtain ⟨⟨p,m⟩,h1,h⟩:=an' h;simp only at h;split at h
  ·cases h
  split at h
  ·cases h
  cases i with
  | zero =>
   simp only [List.getElem?_cons_zero,Option.some.injEq] at hy;subst hy;refine ⟨n,m,p,?_⟩
   simpa [bJ'] using h1
  | succ i =>
   simp only [List.getElem?_cons_succ] at hy;obtain ⟨a,b,c,h2⟩:=it' r _ _ _ h i y hy;refine ⟨a,b,c,?_⟩;rw [<- h2];simp [bJ']
theorem rl' {e:Int} {go:List Tr} {na:Nat}:∀ (l:List Tr) (j n:Nat) q,oD' B e go na cx l j n = .ok q -> ∀ (i:Nat) o,l[i]? = some o -> ∃ want n0 n1,io' (qiM B e) go na (j + i) = .ok want /\ bv' B cx o want ((n0:Nat):Int) = .ok ((),n1)
 | [],j,n,q,h,i,o,hy=>by simp at hy
 | x :: r,j,n,q,h,i,o,hy=>by
  simp only [oD'] at h;split at h
  ·cases h
  obtain ⟨⟨want,m⟩,h1,h⟩:=an' h;obtain ⟨⟨u,m2⟩,h2,h⟩:=an' h;obtain ⟨hw,_⟩:=cO' h1;cases i with
  | zero =>
   simp only [List.getElem?_cons_zero,Option.some.injEq] at hy;subst hy;exact ⟨want,m,m2,hw,h2⟩
  | succ i =>
   simp only [List.getElem?_cons_succ] at hy;obtain ⟨a,b,c,h3,h4⟩:=rl' r (j + 1) m2 q h i o hy;exact ⟨a,b,c,by rw [show j + (i + 1) = j + 1 + i by omega]; exact h3,h4⟩
theorem lI' {e:Int} {cp:Ctx}:∀ (l:List CtT) (n:Nat) q,dM' B e cp l n = .ok q -> ∀ (k:Nat) c,l[k]? = some c -> ∃ n1 n2 n3 cx,fV' B e (c.args.map tr) cp n1 = .ok (cx,n2) /\ oD' B e (c.out.map tr) c.args.length cx (c.out.map tr) 0 n2 = .ok ((),n3)
 | [],n,q,h,k,c,hy=>by simp at hy
 | x :: r,n,q,h,k,c,hy=>by
  simp only [dM'] at h;obtain ⟨⟨cx,m⟩,h1,h⟩:=an' h;obtain ⟨⟨u,m2⟩,h2,h⟩:=an' h;cases k with
  | zero =>
   simp only [List.getElem?_cons_zero,Option.some.injEq] at hy;subst hy;exact ⟨n,m,m2,cx,h1,h2⟩
  | succ k =>
   simp only [List.getElem?_cons_succ] at hy;exact lI' r m2 q h k c hy
end
theorem lJ' {B:BoT} {e f:Int} {q:Unit × Nat} (h:cS' B e f = .ok q):aM' B = 0 /\ dV' B B.ents.length e = true /\ ∃ n1 n2 n3 n4,kk' B (psM B e) [] n1 = .ok (bJ' (psM B e),n2) /\ (∃ cq,kk' B (qiM B e) (bJ' (psM B e)) n2 = .ok (cq,n3)) /\ dM' B e (bJ' (psM B e)) (entD B e).ctors n3 = .ok ((),n4):=by
 unfold cS' at h;split at h
 ·cases h
 rename_i g;have g:az' B e = 0:=Decidable.not_not.1 g;unfold az' at g;split at g
 ·rename_i g1; exact absurd g g1
 rename_i g1;split at g
 ·cases g
 split at g
 ·cases g
 split at g
 ·cases g
 rename_i g2 g3 g4;unfold vp' at h;obtain ⟨⟨ty,n1⟩,h1,h⟩:=an' h;obtain ⟨⟨cp,n2⟩,h2,h⟩:=an' h;obtain ⟨⟨cq,n3⟩,h3,h⟩:=an' h;have hcp:=mD' _ _ _ _ h2;simp only [List.nil_append] at hcp;have hcp:cp = bJ' (psM B e):=hcp;subst hcp;obtain ⟨⟨⟩,n4⟩:=q;refine ⟨Decidable.not_not.1 g1,?_,n1,n2,n3,n4,h2,⟨cq,h3⟩,h⟩;simp only [dV',Bool.and_eq_true,decide_eq_true_eq];exact ⟨by omega,by omega,Decidable.not_not.1 g4⟩
theorem lK' {B:BoT} (hR:aM' B = 0) {t:Tr} (hF:Ft (QB B) 0 t) (h:∀ n,n <= 100000 -> Alw (bt' B (aj' B GJ) [] t n)) (f:Int):Alw (kn' B [] (row t) f):=by
 have hfit:dr' B [] (row t) = 0:=by
  have:=sI' hR (c:=[]) (fun i q hq=>by simp at hq) (by simp) (x:=t) (by simpa using hF)
  simpa using this
 unfold kn';rw [if_neg (by rw [hfit]; simp),dU' hF.ok];unfold bx';exact h _ (ev' f)
theorem mI' {B:BoT} {e f:Int} {q:Unit × Nat} (hf:cS' B e f = .ok q) {t:Tr} (ht:iv' B e = .ok t) (f':Int):Alw (kn' B [] (row t) f'):=by
 obtain ⟨hR,hfam,n1,n2,n3,n4,h1,⟨cq,h2⟩,_⟩:=lJ' hf;have hB:=ex' hR;have hF:=qj' hB hfam ht;refine lK' hR hF (fun n hn=>?_) f';obtain ⟨i,x,s,ps,qi,rfl,_,hi,hxD,hG⟩:=hB.fam hfam (KJ _);obtain ⟨e1,e2,e3⟩:=hG.ps_eq hi;unfold iv' at ht;rw [e1,e2,e3] at ht;rw [e1] at h1 h2;rw [e2] at h2;have hlp:=hG.lp;have hli:=hG.li;have htb:t = aB' 4 ps (aB' 4 qi s):=by
  unfold ba' at ht;split at ht
  ·cases ht
  ·simp only [Except.bind] at ht
   split at ht
   ·cases ht
   ·injection ht with ht
    exact ht.symm
 subst htb;have hF2:=ei' ps 0 _ hF;have hF3:=ei' qi _ _ hF2;have hcx:CxOk B (bJ' ps):=my' fun k y hy=>hG.up_p hB hi hy;refine fy' hB ps [] _ (fun i q hq=>by simp at hq) (by simp; omega) (fun i y hy=>by simpa using ez' ps [] n1 _ h1 i y hy) hF (fun g n hg hn=>?_) GJ n (KJ _) hn;rw [List.nil_append];exact fy' hB qi (bJ' ps) s hcx (by rw [cf']; omega) (fun i y hy=>ez' qi (bJ' ps) n2 _ h2 i y hy) (by rw [cf']; simpa using hF2) (fun g n hg hn=>sY' hF3 hG.s2 g n hn) g n hg hn
theorem jm' {ys:List Tr} {x:Tr} {er:Int} (h:ba' ys x = .error er):er = 9:=by
 unfold ba' at h;split at h
 ·injection h with h
  exact h.symm
 ·cases h
theorem gM' {ys:List Tr} {x z:Tr} (h:ba' ys x = .ok z):z = aB' 4 ys x:=by
 unfold ba' at h;split at h
 ·cases h
 ·injection h with h
  exact h.symm
theorem wv' {x:Tr} (hx:Ok .tm x) (hs:cB' x) {b f:Int} (h0:0 <= b) (hb:b <= 500000) (h1:x.n.op ≠ 1):(al' x b f).n = x.n :=
 (pb' (fun d n y hp h1 e=>gE' h0 hp h1 e) x .tm 0 0 _ hx (ax' hx hs (by_:=b) (fr:=f) hb)).2 h1
theorem rm' {B:BoT} (hB:GoodB B) {e:Int} (hfam:dV' B B.ents.length e = true) {ps qi ga go:List Tr} {s:Tr} (hlp:ps.length <= 16) (hli:qi.length <= 16) (hla:ga.length <= 16) (hlo:go.length = qi.length) (hpsM:psM B e = ps) (hqM:qiM B e = qi) (hsM:tr (entD B e).sort = s) (hs2:s.n.op = 2)
  (hgo:∀ y ∈ go,Ft (QB B) ((ps.length + ga.length:Nat):Int) y) (hck:∀ (j:Nat) o,go[j]? = some o -> ∃ want n0 n1,io' qi go ga.length j = .ok want /\ bv' B (bJ' ps ++ bJ' ga) o want ((n0:Nat):Int) = .ok ((),n1))
  (g n:Nat) (hg:g <= GJ) (hn:n <= 100000):Alw (bt' B (aj' B g) (bJ' ps ++ bJ' ga) (ai' (.mk ⟨9,e,0⟩ []) (varsM ps.length (ga.length:Int) ++ go)) n):=by
 rw [fW'];have hE:∀ er,iv' B e = .error er -> er = 9:=fun er h=>by
  unfold iv' at h;cases h1:ba' (qiM B e) (tr (entD B e).sort) with
  | error e' =>
   rw [h1] at h;simp only [Except.bind] at h;injection h with h
   rw [<- h];exact jm' h1
  | ok z =>
   rw [h1] at h;exact jm' h
 have hT:∀ T,iv' B e = .ok T -> T = aB' 4 (ps ++ qi) s:=fun T h=>by
  unfold iv' at h;rw [hpsM,hqM,hsM] at h;cases h1:ba' qi s with
  | error e'=>rw [h1] at h; cases h
  | ok z =>
   rw [h1] at h;rw [gM' h,gM' h1,is']
 cases hI:iv' B e with
 | error er =>
  have h9:=hE er hI;have hno:∀ g n,Alw (aj' B g (bJ' ps ++ bJ' ga) (.mk ⟨9,e,0⟩ []) n) /\ ∀ q,aj' B g (bJ' ps ++ bJ' ga) (.mk ⟨9,e,0⟩ []) n ≠ .ok q:=fun g n=>by
   cases g with
   | zero=>exact ⟨Alw.er (.inl rfl),fun q h=>by cases h⟩
   | succ g =>
    have hi:aj' B (g + 1) (bJ' ps ++ bJ' ga) (.mk ⟨9,e,0⟩ []) n = puJ (iv' B e) n:=rfl;rw [hi,hI];simp only [puJ];exact ⟨Alw.er (by omega),fun q h=>by cases h⟩
  rw [<- fW'];obtain ⟨a1,a2⟩:=tJ' (F:=.mk ⟨9,e,0⟩ []) (varsM ps.length (ga.length:Int) ++ go) _ hno g n;exact rk' hn a1 fun ty m h=>absurd h (a2 _)
 | ok T =>
  have hTe:=hT T hI;have hTF:=qj' hB hfam hI;have hRF:∀ j,j <= (ps ++ qi).length -> Ft (QB B) (j:Int) (aB' 4 ((ps ++ qi).drop j) s):=fun j hj=>by
   rw [hTe,<- List.take_append_drop j (ps ++ qi),is'] at hTF;have:=ei' _ _ _ hTF;rw [List.length_take,Nat.min_eq_left hj] at this
   simpa using this
  have hL:(bJ' ps ++ bJ' ga).length = ps.length + ga.length:=by rw [JK,cf',cf']
  have hcx:∀ i,i < ps.length -> ∃ P o,(bJ' ps ++ bJ' ga)[i]? = some (P,o) /\ (ps ++ qi)[i]? = some P:=fun i hi=>by
   obtain ⟨P,hP,_⟩:=af' (l:=ps) (k:=i) hi;refine ⟨P,none,?_,?_⟩
   ·rw [List.getElem?_append_left (by rw [cf']; exact hi)]
    unfold bJ';rw [JX,hP]
    rfl
   ·rw [List.getElem?_append_left hi]
    exact hP
  have hvl:(varsM ps.length (ga.length:Int)).length = ps.length:=by simp [varsM]
  have hF:∀ g n,n <= 100000 -> Alw (aj' B g (bJ' ps ++ bJ' ga) (ai' (.mk ⟨9,e,0⟩ []) (varsM ps.length (ga.length:Int))) n) /\ ∀ ty m,aj' B g (bJ' ps ++ bJ' ga) (ai' (.mk ⟨9,e,0⟩ []) (varsM ps.length (ga.length:Int))) n = .ok (ty,m) -> m <= n /\ ty = al' (aB' 4 qi s) (ga.length:Int) 0:=fun g n hn=>by
   have:=jl' (B:=B) (cx:=bJ' ps ++ bJ' ga) (Y:=ps ++ qi) (s:=s) (np:=ps.length) (na:=ga.length) (e:=e) hT hE hRF (by simp) hL (by omega) hcx ps.length (KJ _) g n hn;rw [JG (by omega),List.drop_left,show ps.length + ga.length - ps.length = ga.length by omega] at this;exact this
  have hRq:∀ j,j <= qi.length -> Ft (QB B) ((ps.length + j:Nat):Int) (aB' 4 (qi.drop j) s):=fun j hj=>by
   have:=hRF (ps.length + j) (by simp; omega)
   rwa [List.drop_append,JY (by omega),List.nil_append,show ps.length + j - ps.length = j by omega] at this
  obtain ⟨b1,b2⟩:=nZ' (B:=B) (cx:=bJ' ps ++ bJ' ga) hB (qi:=qi) (go:=go) (s:=s) (F:=ai' (.mk ⟨9,e,0⟩ []) (varsM ps.length (ga.length:Int))) (na:=ga.length) (np:=ps.length) hlp hla hlo.symm (by omega) hgo hRq hF hck go.length (KJ _) g n hg hn;rw [JG (KJ _)] at b1 b2;refine rk' hn b1 fun ty m h=>?_;obtain ⟨c1,c2⟩:=b2 ty m h;refine ⟨c1,?_⟩;have hs0:=hRq qi.length (KJ _);rw [JY (KJ _)] at hs0;rw [JY (by omega)] at c2;have hs0:Ft (QB B) ((ps.length + qi.length:Nat):Int) s:=hs0;have c2:gT (fA' go go.length) (al' s (ga.length:Int) (go.length:Int)) 0 0 = some ty:=c2;have hsm:=hs0.small (by omega);have hln:=wv' hs0.ok hsm (b:=(ga.length:Int)) (f:=(go.length:Int)) (by omega) (by omega) (by omega);have:=(tI' (Q:=QB B) (N:=ps.length + ga.length) (by omega) hgo (j:=go.length) (KJ _) (da' hs0.ok hsm (by omega) (by omega)) c2).2 (by rw [hln]; omega);rw [this,hln];exact hs2
theorem gn' {B:BoT} {e f:Int} {q:Unit × Nat} (hf:cS' B e f = .ok q) {k:Nat} (hk:k < (entD B e).ctors.length) {t:Tr} (ht:gy' B e (k:Int) = .ok t) (f':Int):Alw (kn' B [] (row t) f'):=by
 obtain ⟨hR,hfam,n1,n2,n3,n4,h1,_,h3⟩:=lJ' hf;have hB:=ex' hR;have hF:=qk' hB hfam (by omega) (by omega) ht;refine lK' hR hF (fun n hn=>?_) f';obtain ⟨i,x,s,ps,qi,rfl,_,hi,hxD,hG⟩:=hB.fam hfam (KJ _);obtain ⟨e1,e2,e3⟩:=hG.ps_eq hi;rw [hxD] at hk h3;obtain ⟨c,hc,_⟩:=af' (l:=x.ctors) (k:=k) hk;obtain ⟨ga,go,hC⟩:=hG.ct k c hc;obtain ⟨e4,e5,e6⟩:=hC.ag_eq hi hc;have hlp:=hG.lp;have hli:=hG.li;have hla:=hC.la;have m1:c.args.map tr = ga:=du' hC.args fun y hy=>by
  obtain ⟨j,hj⟩:=JH hy;exact (hC.fa j y hj).ok
 have m2:c.out.map tr = go:=du' hC.out fun y hy=>(hC.fo y hy).ok;have l1:c.args.length = ga.length:=by rw [hC.args]; simp
 rw [e1] at h1 h3;obtain ⟨a1,a2,a3,cx',hargs,hout⟩:=lI' x.ctors n3 _ h3 k c hc;rw [m1] at hargs;rw [m2,l1] at hout;have hcx':=kl' _ _ _ _ hargs;have hcx':cx' = bJ' ps ++ bJ' ga:=hcx';subst hcx';unfold gy' at ht;rw [e1,e4,e5] at ht;have htb:t = aB' 4 ps (aB' 4 ga (ai' (.mk ⟨9,(i:Int),0⟩ []) (varsM ps.length (ga.length:Int) ++ go))):=by
  cases g1:aN' (.mk ⟨9,(i:Int),0⟩ []) (varsM ps.length (ga.length:Int) ++ go) with
  | error er=>rw [g1] at ht; cases ht
  | ok R =>
   rw [g1] at ht;simp only [Except.bind] at ht;cases g2:ba' ga R with
   | error er=>rw [g2] at ht; cases ht
   | ok z =>
    rw [g2] at ht;have hRe:R = ai' (.mk ⟨9,(i:Int),0⟩ []) (varsM ps.length (ga.length:Int) ++ go):=by
     unfold aN' at g1;split at g1
     ·cases g1
     ·injection g1 with g1
      exact g1.symm
    rw [gM' ht,gM' g2,hRe]
 subst htb;have hF2:=ei' ps 0 _ hF;have hcx:CxOk B (bJ' ps):=my' fun k y hy=>hG.up_p hB hi hy;refine fy' hB ps [] _ (fun i q hq=>by simp at hq) (by simp; omega) (fun i y hy=>by simpa using ez' ps [] n1 _ h1 i y hy) hF (fun g n hg hn=>?_) GJ n (KJ _) hn;rw [List.nil_append];refine fy' hB ga (bJ' ps) _ hcx (by rw [cf']; omega) (fun i y hy=>it' ga (bJ' ps) a1 _ hargs i y hy) (by rw [cf']; simpa using hF2) (fun g n hg hn=>?_) g n hg hn;exact rm' hB hfam hlp hli hla hC.lo e1 e2 e3 hG.s2 (fun y hy=>hC.up_o hi hG.kind hy) (fun j o ho=>by
  obtain ⟨want,b1,b2,b3,b4⟩:=rl' go 0 a2 _ hout j o ho;rw [KW,e2] at b3;exact ⟨want,b1,b2,b3,b4⟩) g n hg hn
theorem tK' {B:BoT} {e:Int} (h:az' B e = 0):dV' B B.ents.length e = true:=by
 obtain ⟨hR,hB,h0,h1,hx,s,ps,qi,hF⟩:=dD' h;have hk:=hF.kind;simp only [dV',Bool.and_eq_true,decide_eq_true_eq];exact ⟨h0,h1,hk⟩
section
variable {C:Mem} {w:World} {B:BoT}
def FamP (C:Mem) (w:World) (B:BoT) (e:Int) (r:Ending) (w':World):Prop :=
 (∃ (K:Int) (u1 u2 u3 u4 u5 u6:Value),r = .returned (.tuple #[.agg #[.int .i64 K,u1,u2,u3,u4,u5,u6],.int .i64 (az' B e)]) /\ (∀ v ∈ [u1,u2,u3,u4,u5,u6],v.oneCell' = true) /\ (az' B e = 0 -> SV rCt C (entD B e).ctors u4)) /\ Kp [] w w'
theorem jn' (hS:Sub C w) (hold:∀ b o v,C b o v -> b < w.heap.size) {vb:Value} (hvb:BoV C B vb) (e:Int) :
  CC 15 #[vb,.int .i64 e] w (FamP C w B e):=by
 refine oF Tryz.func15 ?_;unfold FamP;obtain ⟨RES,hRES⟩:∃ r,az' B e = r:=⟨_,rfl⟩
 rw [hRES];have hRR:=hRES;unfold az' at hRES;have hvv:=hvb;obtain ⟨v1,v2,v3,rfl,hO,hE,hP⟩:=hvb;obtain ⟨ae,ce,rfl⟩:=hE.len;refine cO (args:=[_,_]) 37 [.cell 4 40,.tmp 5] τok Tryz.func15 ?_;refine new fun b2 w1 hb2 h2 hs1 hk1=>?_;have h2:Bk w1.heap b2 [.int .i64 B.vars,v1,.slice ae B.ents.length ce,.int .i64 B.nat,v3] 26:=h2;refine new fun b4 w2 hb4 h4 hs2 hk2=>?_;have h4:Bk w2.heap b4 [.int .i64 0,.slice none 0 0,.slice none 0 0,.slice none 0 0,.slice none 0 0,.slice none 0 0,.slice none 0 0] 40:=h4;have h2:=h2.kp hk2 (by simp);have k02:=hk1.tr hk2;have s02:=k02.size;have s01:=hk1.size;refine ldN [.int .i64 B.vars,v1,.slice ae B.ents.length ce,.int .i64 B.nat,v3] rfl (bZ h2) ?_;refine ab' (fv' (hS.tr k02) (Kp.hold k02 hold) hvv) ?_;rintro r w3 ⟨rfl,hk3⟩;have k03:=k02.tr hk3;have h2:=h2.kp hk3 (by simp);have h4:=h4.kp hk3 (by simp);have fin0:∀ {w4:World},Kp [b4] w3 w4 -> Kp [] w w4:=fun h=>k03.trans h fun x hx hl=>by simp at hx; omega
 by_cases g0:aM' B ≠ 0
 ·rw [if_pos g0] at hRES
  subst hRES;refine au' g0 ?_;refine stN (vs:=[.int .i64 0,.slice none 0 0,.slice none 0 0,.slice none 0 0,.slice none 0 0,.slice none 0 0,.slice none 0 0]) h4 rfl (by simp [Value.oneCell']) fun w4 h4 hs4 hk4=>?_;refine ju' τok rfl [_,_,_,_,_,_,_] rfl (fun j v hj=>h4.cl hj) ?_;exact ⟨⟨0,.slice none 0 0,.slice none 0 0,.slice none 0 0,.slice none 0 0,.slice none 0 0,.slice none 0 0,rfl,by simp [Value.oneCell'],fun h=>absurd h g0⟩,fin0 hk4⟩
 rw [if_neg g0] at hRES;refine bz' g0 ?_;refine ac' (fun g1=>?_) (fun g1=>?_)
 ·rw [if_pos g1] at hRES
  subst hRES;refine stN (vs:=[.int .i64 0,.slice none 0 0,.slice none 0 0,.slice none 0 0,.slice none 0 0,.slice none 0 0,.slice none 0 0]) h4 rfl (by simp [Value.oneCell']) fun w4 h4 hs4 hk4=>?_;refine ju' τok rfl [_,_,_,_,_,_,_] rfl (fun j v hj=>h4.cl hj) ?_;exact ⟨⟨0,.slice none 0 0,.slice none 0 0,.slice none 0 0,.slice none 0 0,.slice none 0 0,.slice none 0 0,rfl,by simp [Value.oneCell'],fun h=>absurd h (by decide)⟩,fin0 hk4⟩
 rw [if_neg g1] at hRES;have g1:¬ e < 0:=g1;refine lb h2 ?_;refine ac' (fun g2=>?_) (fun g2=>?_)
 ·rw [if_pos g2] at hRES
  subst hRES;refine stN (vs:=[.int .i64 0,.slice none 0 0,.slice none 0 0,.slice none 0 0,.slice none 0 0,.slice none 0 0,.slice none 0 0]) h4 rfl (by simp [Value.oneCell']) fun w4 h4 hs4 hk4=>?_;refine ju' τok rfl [_,_,_,_,_,_,_] rfl (fun j v hj=>h4.cl hj) ?_;exact ⟨⟨0,.slice none 0 0,.slice none 0 0,.slice none 0 0,.slice none 0 0,.slice none 0 0,.slice none 0 0,rfl,by simp [Value.oneCell'],fun h=>absurd h (by decide)⟩,fin0 hk4⟩
 rw [if_neg g2] at hRES;have g2:¬ (B.ents.length:Int) <= e:=g2;obtain ⟨be,oe,ce',e1,u1,u2,u3,u4,u5,u6,hcs,s1,s2,s3,s4,s5,s6⟩:=eP' (e:=e) hE (by omega) (by omega);injection e1 with e1 _ e2
 subst e1 e2;have hone:=gJ' s1 s2 s3 s4 s5 s6;refine lb h2 ?_;refine ix e.toNat (by omega) (by omega) ?_;refine ld (Cl.cell (hS.tr k03 _ _ _ (hcs 0 _ rfl))) ?_;refine ac' (fun g3=>?_) (fun g3=>?_)
 ·rw [if_pos g3] at hRES
  subst hRES;refine stN (vs:=[.int .i64 0,.slice none 0 0,.slice none 0 0,.slice none 0 0,.slice none 0 0,.slice none 0 0,.slice none 0 0]) h4 rfl (by simp [Value.oneCell']) fun w4 h4 hs4 hk4=>?_;refine ju' τok rfl [_,_,_,_,_,_,_] rfl (fun j v hj=>h4.cl hj) ?_;exact ⟨⟨0,.slice none 0 0,.slice none 0 0,.slice none 0 0,.slice none 0 0,.slice none 0 0,.slice none 0 0,rfl,by simp [Value.oneCell'],fun h=>absurd h (by decide)⟩,fin0 hk4⟩
 ·rw [if_neg g3] at hRES
  subst hRES;refine lb h2 ?_;refine ix e.toNat (by omega) (by omega) ?_;refine ldN [.int .i64 (entD B e).kind,u1,u2,u3,u4,u5,u6] rfl (fun j v hj=>hS.tr k03 _ _ _ (hcs j v hj)) ?_;refine stN (vs:=[.int .i64 (entD B e).kind,u1,u2,u3,u4,u5,u6]) h4 rfl hone fun w4 h4 hs4 hk4=>?_;refine ju' τok rfl [.int .i64 (entD B e).kind,u1,u2,u3,u4,u5,u6] rfl (fun j v hj=>h4.cl hj) ?_;exact ⟨⟨(entD B e).kind,u1,u2,u3,u4,u5,u6,rfl,fun v hv=>hone v (List.mem_cons_of_mem _ hv),fun _=>s4⟩,fin0 hk4⟩
def vq' (B:BoT) (e:Int):Except Int Tr:=if az' B e ≠ 0 then .error (az' B e) else iv' B e
def mJ' (B:BoT) (e k:Int):Except Int Tr:=if az' B e ≠ 0 then .error (az' B e) else if k < 0 then .error 1 else if ((entD B e).ctors.length:Int) <= k then .error 1 else gy' B e k
theorem mK' (hS:Sub C w) (hold:∀ b o v,C b o v -> b < w.heap.size) {vb:Value} (hvb:BoV C B vb) (e:Int) :
  CC 7 #[vb,.int .i64 e] w (TyP C w (vq' B e)):=by
 refine oF Tryz.func7 ?_;obtain ⟨RES,hRES⟩:∃ r,vq' B e = r:=⟨_,rfl⟩
 rw [hRES];unfold vq' at hRES;have hvv:=hvb;obtain ⟨v1,v2,v3,rfl,hO,hE,hP⟩:=hvb;refine cO (args:=[_,_]) 22 [.tmp 4,.tmp 5] τok Tryz.func7 ?_;refine new fun b2 w1 hb2 h2 hs1 hk1=>?_;have h2:Bk w1.heap b2 [.int .i64 B.vars,v1,v2,.int .i64 B.nat,v3] 26:=h2;refine ldN [.int .i64 B.vars,v1,v2,.int .i64 B.nat,v3] rfl (bZ h2) ?_;refine ab' (jn' (hS.tr hk1) (Kp.hold hk1 hold) hvv e) ?_;rintro r w2 ⟨⟨K,u1,u2,u3,u4,u5,u6,rfl,hone,_⟩,hk2⟩;have k02:=hk1.tr hk2;have h2:=h2.kp hk2 (by simp);refine new fun b6 w3 hb6 h6 hs3 hk3=>?_;refine stN (vs:=[.int .i64 K,u1,u2,u3,u4,u5,u6]) h6 rfl (fun v hv=>by
  rcases List.mem_cons.1 hv with rfl | hv
  ·rfl
  ·exact hone v hv) fun w4 h6 hs4 hk4=>?_
 have k24:=hk3.newSt hb6 hk4;have k04:=k02.tr k24;have h2:=h2.kp k24 (by simp)
 by_cases g0:az' B e ≠ 0
 ·rw [if_pos g0] at hRES
  subst hRES;refine au' g0 ?_;exact ⟨⟨rfl,g0⟩,k04⟩
 rw [if_neg g0] at hRES;refine bz' g0 ?_;have g0:az' B e = 0:=Decidable.not_not.1 g0;refine ldN [.int .i64 B.vars,v1,v2,.int .i64 B.nat,v3] rfl (bZ h2) ?_;refine ab' (ja' (dD' g0).2.1 (hS.tr k04) hvv (tK' g0)) ?_;rintro r w5 ⟨hr,hk5⟩;rw [hRES] at hr;cases RES with
 | error er =>
  obtain ⟨rfl,her⟩:=hr;exact ⟨⟨rfl,her⟩,k04.tr hk5⟩
 | ok z =>
  obtain ⟨u,rfl,hu⟩:=hr;exact ⟨⟨u,rfl,hu.mono fun b o v h=>h.imp_right fun q=>⟨KQ k04.size q.1,q.2⟩⟩,k04.tr hk5⟩
theorem go' (hS:Sub C w) (hold:∀ b o v,C b o v -> b < w.heap.size) {vb:Value} (hvb:BoV C B vb) (e k:Int) :
  CC 9 #[vb,.int .i64 e,.int .i64 k] w (TyP C w (mJ' B e k)):=by
 refine oF Tryz.func9 ?_;obtain ⟨RES,hRES⟩:∃ r,mJ' B e k = r:=⟨_,rfl⟩
 rw [hRES];unfold mJ' at hRES;have hvv:=hvb;obtain ⟨v1,v2,v3,rfl,hO,hE,hP⟩:=hvb;refine cO (args:=[_,_,_]) 34 [.tmp 6,.tmp 7] τok Tryz.func9 ?_;refine new fun b3 w1 hb3 h3 hs1 hk1=>?_;have h3:Bk w1.heap b3 [.int .i64 B.vars,v1,v2,.int .i64 B.nat,v3] 26:=h3;refine ldN [.int .i64 B.vars,v1,v2,.int .i64 B.nat,v3] rfl (bZ h3) ?_;refine ab' (jn' (hS.tr hk1) (Kp.hold hk1 hold) hvv e) ?_;rintro r w2 ⟨⟨K,u1,u2,u3,u4,u5,u6,rfl,hone,h4⟩,hk2⟩;have k02:=hk1.tr hk2;have h3:=h3.kp hk2 (by simp);refine new fun b8 w3 hb8 h8 hs3 hk3=>?_;refine stN (vs:=[.int .i64 K,u1,u2,u3,u4,u5,u6]) h8 rfl (fun v hv=>by
  rcases List.mem_cons.1 hv with rfl | hv
  ·rfl
  ·exact hone v hv) fun w4 h8 hs4 hk4=>?_
 have k24:=hk3.newSt hb8 hk4;have k04:=k02.tr k24;have h3:=h3.kp k24 (by simp)
 by_cases g0:az' B e ≠ 0
 ·rw [if_pos g0] at hRES
  subst hRES;refine au' g0 ?_;exact ⟨⟨rfl,g0⟩,k04⟩
 rw [if_neg g0] at hRES;refine bz' g0 ?_;have g0:az' B e = 0:=Decidable.not_not.1 g0;have h4:=h4 g0;obtain ⟨a4,c4,rfl⟩:=h4.len;refine ac' (fun g1=>?_) (fun g1=>?_)
 ·rw [if_pos g1] at hRES
  subst hRES;exact ⟨⟨rfl,by decide⟩,k04⟩
 rw [if_neg g1] at hRES;have g1:¬ k < 0:=g1;refine lb h8 ?_;refine ac' (fun g2=>?_) (fun g2=>?_)
 ·rw [if_pos g2] at hRES
  subst hRES;exact ⟨⟨rfl,by decide⟩,k04⟩
 rw [if_neg g2] at hRES;have g2:¬ ((entD B e).ctors.length:Int) <= k:=g2;refine ldN [.int .i64 B.vars,v1,v2,.int .i64 B.nat,v3] rfl (bZ h3) ?_;refine ab' (ie' (dD' g0).2.1 (hS.tr k04) (Kp.hold k04 hold) hvv (tK' g0) (by omega) (by omega)) ?_;rintro r w5 ⟨hr,hk5⟩;rw [hRES] at hr;cases RES with
 | error er =>
  obtain ⟨rfl,her⟩:=hr;exact ⟨⟨rfl,her⟩,k04.tr hk5⟩
 | ok z =>
  obtain ⟨u,rfl,hu⟩:=hr;exact ⟨⟨u,rfl,hu.mono fun b o v h=>h.imp_right fun q=>⟨KQ k04.size q.1,q.2⟩⟩,k04.tr hk5⟩
end
section
variable {w:World} {B:BoT}
theorem ko' {t:List Nd} (hA:Alw (kn' B [] t 2000)) {vb v:Value} (hb:BoV (Im [] w) B vb) (hv:SV rNd (Im [] w) t v) :
  CC 8 #[vb,v] w (fun r w'=>r = .returned (.bool true) /\ Kp [] w w'):=by
 refine oF Tryz.func8 ?_;have hbb:=hb;obtain ⟨v1,v2,v3,rfl,_,_,_⟩:=hbb;obtain ⟨av,cv,rfl,_,_⟩:=id hv;refine cO (args:=[_,_]) 35 [.tmp 4] τok Tryz.func8 ?_;refine new fun b2 w1 hb2 h2 hs1 hk1=>?_;have h2:Bk w1.heap b2 [.int .i64 B.vars,v1,v2,.int .i64 B.nat,v3] 26:=h2;have up1:∀ b o v,Im [] w b o v -> Im [] w1 b o v:=fun b o v h=>h.tr hk1;refine ldN [.int .i64 B.vars,v1,v2,.int .i64 B.nat,v3] rfl (bZ h2) ?_;refine ab' (tb' (X:=[]) (c:=[]) (t:=t) (fuel:=2000) (by simp) (hb.mono up1) (SV.nil _ _) (hv.mono up1)) ?_;rintro r w2 ⟨hr,hk2⟩;have k02:=hk1.tr hk2;cases hq:kn' B [] t 2000 with
 | ok q =>
  rw [hq] at hr;obtain ⟨a,c,rfl,_⟩:=hr;exact ⟨rfl,k02⟩
 | error er =>
  rw [hq] at hr;obtain rfl:=hr;rcases hA er hq with rfl | rfl | rfl | rfl
  ·exact ⟨rfl,k02⟩
  ·exact ⟨rfl,k02⟩
  ·exact ⟨rfl,k02⟩
  ·exact ⟨rfl,k02⟩
end
theorem uW' {B:BoT} {e:Int} {t:Tr} (h:vq' B e = .ok t):az' B e = 0 /\ iv' B e = .ok t:=by
 unfold vq' at h;split at h
 ·cases h
 rename_i g;exact ⟨Decidable.not_not.1 g,h⟩
theorem oa' {B:BoT} {e k:Int} {t:Tr} (h:mJ' B e k = .ok t):gy' B e k = .ok t:=by
 unfold mJ' at h;split at h
 ·cases h
 split at h
 ·cases h
 split at h
 ·cases h
 exact h
theorem tc' {B:BoT} {e:Int} (h:az' B e = 0):0 <= e /\ e < B.ents.length:=⟨(dD' h).2.2.1,(dD' h).2.2.2.1⟩
section
variable {w:World} {B:BoT}
theorem iC' {v:Value} (hv:BoV (Im [] w) B v) (en:Int) :
  CC 3 #[v,.int .i64 en] w (fun e w'=>e = .returned (.bool true) /\ Kp [] w w'):=by
 refine oF Tryz.func3 ?_;have hvv:=hv;obtain ⟨v1,v2,v3,rfl,hO,hE,hP⟩:=hv;obtain ⟨ae,ce,rfl,hE1,_⟩:=id hE;have lE:=hE1.1;refine cO (args:=[_,_]) 97 [.tmp 4] τok Tryz.func3 ?_;refine new fun b2 w1 hb2 h2 hs1 hk1=>?_;have h2:Bk w1.heap b2 [.int .i64 B.vars,v1,.slice ae B.ents.length ce,.int .i64 B.nat,v3] 26:=h2;refine ab' (qY' w1) ?_;rintro r w2 ⟨rfl,hk2⟩;have k02:=hk1.tr hk2;have h2:=h2.kp hk2 (by simp);refine ldN [.int .i64 B.vars,v1,.slice ae B.ents.length ce,.int .i64 B.nat,v3] rfl (bZ h2) ?_;refine ab' (uU' ((Im.sub [] w).tr k02) hvv (lim:=3000) (by omega)) ?_;rintro r w3 ⟨rfl,hk3⟩;have k03:=k02.tr hk3;have h2:=h2.kp hk3 (by simp);refine ac' (fun g0=>?_) (fun g0=>?_)
 ·exact ⟨rfl,k03⟩
 refine lp τok (σ:=Nat) (fun i=>[(1,.int .i64 en),(2,pt b2),(5,.int .i64 (i:Int))])
  (fun i w'=>i <= B.ents.length /\ (∀ k:Nat,k < i -> ∃ q,cS' B (k:Int) 400 = .ok q) /\ Kp [] w3 w') (fun i=>B.ents.length - i) 0 rfl ⟨rfl,rfl,rfl,trivial⟩ ⟨KV _,fun k h=>absurd h (by omega),Kp.refl _ _⟩ ?_
 rintro i w4 ⟨hi,hall,hk4⟩;have k04:=k03.tr hk4;have h2:=h2.kp hk4 (by simp);refine lb h2 ?_;refine ac' (fun g=>?_) (fun g=>?_)
 ·have hlt:i < B.ents.length:=by
   have:(i:Int) < B.ents.length:=g;omega
  refine ldN [.int .i64 B.vars,v1,.slice ae B.ents.length ce,.int .i64 B.nat,v3] rfl (bZ h2) ?_;refine ab' (eQ' (w:=w4) (C:=Im [] w) (en:=(i:Int)) ((Im.sub [] w).tr k04) (fun _ _ _ h=>KZ h.hold k04.size) hvv 400) ?_;rintro r w5 ⟨hr,hk5⟩;cases hq:cS' B (i:Int) 400 with
  | error er =>
   rw [hq] at hr;obtain ⟨rfl,her⟩:=hr;refine au' (p:=er ≠ 0) her ?_;exact ⟨rfl,k04.tr hk5⟩
  | ok q =>
   rw [hq] at hr;obtain rfl:=hr;refine i6 ?_;refine ⟨i + 1,by omega,rfl,⟨rfl,rfl,rfl,trivial⟩,hlt,fun k hk=>?_,hk4.tr hk5⟩
   by_cases hki:k = i
   ·subst hki
    exact ⟨q,hq⟩
   ·exact hall k (by omega)
 have g:¬ (i:Int) < B.ents.length:=g;have hall:∀ k:Nat,k < B.ents.length -> ∃ q,cS' B (k:Int) 400 = .ok q:=fun k hk=>hall k (by omega);refine ldN [.int .i64 B.vars,v1,.slice ae B.ents.length ce,.int .i64 B.nat,v3] rfl (bZ h2) ?_;refine ab' (mK' (C:=Im [] w4) (Im.sub [] w4) (fun _ _ _ h=>h.hold) (hvv.mono fun _ _ _ h=>h.tr k04) en) ?_;rintro r w5 ⟨hr,hk5⟩;have k05:=k04.tr hk5;have h2:=h2.kp hk5 (by simp);cases hI:vq' B en with
 | error er =>
  rw [hI] at hr;obtain ⟨rfl,her⟩:=hr;refine bz' (p:=er = 0) her ?_;refine au' (p:=er ≠ 0) her ?_;refine ac' (fun g9=>?_) (fun g9=>?_)
  ·refine au' (p:=er ≠ 0) her ?_
   exact ⟨rfl,k05⟩
  refine ac' (fun g1=>?_) (fun g1=>?_)
  ·refine au' (p:=er ≠ 0) her ?_
   exact ⟨rfl,k05⟩
  have g1:¬ en < 0:=g1;refine lb h2 ?_;refine ac' (fun g3=>?_) (fun g3=>?_)
  ·refine au' (p:=er ≠ 0) her ?_
   exact ⟨rfl,k05⟩
  have g3:¬ (B.ents.length:Int) <= en:=g3;obtain ⟨⟨⟨⟩,n⟩,hq⟩:∃ q,cS' B en 400 = .ok q:=by
   have:=hall en.toNat (by omega)
   rwa [show ((en.toNat:Nat):Int) = en by omega] at this
  obtain ⟨be,oe,ce',e1,u1,u2,u3,u4,u5,u6,hcs,s1,s2,s3,s4,s5,s6⟩:=eP' (e:=en) hE (by omega) (by omega);injection e1 with e1 _ e2
  subst e1 e2;obtain ⟨ac,cc,rfl,hs4,_⟩:=id s4;have l4:=hs4.1;refine lp τok (σ:=Nat) (fun k=>[(1,.int .i64 en),(2,pt b2),(10,.int .i64 (k:Int))])
   (fun k w'=>k <= (entD B en).ctors.length /\ Kp [] w5 w') (fun k=>(entD B en).ctors.length - k) 0 rfl ⟨rfl,rfl,rfl,trivial⟩ ⟨KV _,Kp.refl _ _⟩ ?_
  rintro k w6 ⟨hk,hk6⟩;have k06:=k05.tr hk6;have h2:=h2.kp hk6 (by simp);refine lb h2 ?_;refine ix en.toNat (by omega) (by omega) ?_;refine ld (Cl.cell ((hcs 4 _ rfl).1.kp k06 (by simp))) ?_;refine ac' (fun g=>?_) (fun g=>?_)
  ·have hlt:k < (entD B en).ctors.length:=by
    have:(k:Int) < (entD B en).ctors.length:=g;omega
   refine ldN [.int .i64 B.vars,v1,.slice (some ⟨be,oe,none⟩) B.ents.length ce,.int .i64 B.nat,v3] rfl (bZ h2) ?_;refine ab' (go' (C:=Im [] w6) (Im.sub [] w6) (fun _ _ _ h=>h.hold) (hvv.mono fun _ _ _ h=>h.tr k06) en (k:Int)) ?_;rintro r w7 ⟨hr,hk7⟩;have k07:=k06.tr hk7;have h2:=h2.kp hk7 (by simp);cases hc:mJ' B en (k:Int) with
   | error er =>
    rw [hc] at hr;obtain ⟨rfl,her⟩:=hr;refine bz' (p:=er = 0) her ?_;refine i6 ?_;exact ⟨k + 1,by omega,rfl,⟨rfl,rfl,rfl,trivial⟩,hlt,hk6.tr hk7⟩
   | ok t =>
    rw [hc] at hr;obtain ⟨u,rfl,hu⟩:=hr;have hu:SV rNd (Im [] w7) (row t) u:=(TmV.sv.1 hu).mono fun b o v h=>Cn.im (by simp) hk7 h;obtain ⟨au,cu,rfl,_,_⟩:=id hu;refine ldN [.int .i64 B.vars,v1,.slice (some ⟨be,oe,none⟩) B.ents.length ce,.int .i64 B.nat,v3] rfl (bZ h2) ?_;refine ab' (ko' (gn' hq hlt (oa' hc) 2000) (hvv.mono fun _ _ _ h=>h.tr k07) hu) ?_;rintro r w8 ⟨rfl,hk8⟩;refine i6 ?_;exact ⟨k + 1,by omega,rfl,⟨rfl,rfl,rfl,trivial⟩,hlt,(hk6.tr hk7).tr hk8⟩
  ·exact ⟨rfl,k06⟩
 | ok t =>
  rw [hI] at hr;obtain ⟨u,rfl,hu⟩:=hr;obtain ⟨hz,hIE⟩:=uW' hI;obtain ⟨o1,o2⟩:=tc' hz;obtain ⟨q0,hq0⟩:∃ q,cS' B en 400 = .ok q:=by
   have:=hall en.toNat (by omega)
   rwa [show ((en.toNat:Nat):Int) = en by omega] at this
  have hu:SV rNd (Im [] w5) (row t) u:=(TmV.sv.1 hu).mono fun b o v h=>Cn.im (by simp) hk5 h;obtain ⟨au,cu,rfl,_,_⟩:=id hu;refine ldN [.int .i64 B.vars,v1,.slice ae B.ents.length ce,.int .i64 B.nat,v3] rfl (bZ h2) ?_;refine ab' (ko' (mI' hq0 hIE 2000) (hvv.mono fun _ _ _ h=>h.tr k05) hu) ?_;rintro r w5' ⟨rfl,hk5'⟩;have k05:=k05.tr hk5';have h2:=h2.kp hk5' (by simp);obtain ⟨w5,rfl⟩:∃ z,z = w5':=⟨_,rfl⟩
  refine bz' (p:=en < 0) (by omega) ?_;refine lb h2 ?_;refine bz' (p:=(B.ents.length:Int) <= en) (by omega) ?_;have g1:¬ en < 0:=by omega
  have g3:¬ (B.ents.length:Int) <= en:=by omega
  obtain ⟨⟨⟨⟩,n⟩,hq⟩:∃ q,cS' B en 400 = .ok q:=by
   have:=hall en.toNat (by omega)
   rwa [show ((en.toNat:Nat):Int) = en by omega] at this
  obtain ⟨be,oe,ce',e1,u1,u2,u3,u4,u5,u6,hcs,s1,s2,s3,s4,s5,s6⟩:=eP' (e:=en) hE (by omega) (by omega);injection e1 with e1 _ e2
  subst e1 e2;obtain ⟨ac,cc,rfl,hs4,_⟩:=id s4;have l4:=hs4.1;refine lp τok (σ:=Nat) (fun k=>[(1,.int .i64 en),(2,pt b2),(10,.int .i64 (k:Int))])
   (fun k w'=>k <= (entD B en).ctors.length /\ Kp [] w5 w') (fun k=>(entD B en).ctors.length - k) 0 rfl ⟨rfl,rfl,rfl,trivial⟩ ⟨KV _,Kp.refl _ _⟩ ?_
  rintro k w6 ⟨hk,hk6⟩;have k06:=k05.tr hk6;have h2:=h2.kp hk6 (by simp);refine lb h2 ?_;refine ix en.toNat (by omega) (by omega) ?_;refine ld (Cl.cell ((hcs 4 _ rfl).1.kp k06 (by simp))) ?_;refine ac' (fun g=>?_) (fun g=>?_)
  ·have hlt:k < (entD B en).ctors.length:=by
    have:(k:Int) < (entD B en).ctors.length:=g;omega
   refine ldN [.int .i64 B.vars,v1,.slice (some ⟨be,oe,none⟩) B.ents.length ce,.int .i64 B.nat,v3] rfl (bZ h2) ?_;refine ab' (go' (C:=Im [] w6) (Im.sub [] w6) (fun _ _ _ h=>h.hold) (hvv.mono fun _ _ _ h=>h.tr k06) en (k:Int)) ?_;rintro r w7 ⟨hr,hk7⟩;have k07:=k06.tr hk7;have h2:=h2.kp hk7 (by simp);cases hc:mJ' B en (k:Int) with
   | error er =>
    rw [hc] at hr;obtain ⟨rfl,her⟩:=hr;refine bz' (p:=er = 0) her ?_;refine i6 ?_;exact ⟨k + 1,by omega,rfl,⟨rfl,rfl,rfl,trivial⟩,hlt,hk6.tr hk7⟩
   | ok t =>
    rw [hc] at hr;obtain ⟨u,rfl,hu⟩:=hr;have hu:SV rNd (Im [] w7) (row t) u:=(TmV.sv.1 hu).mono fun b o v h=>Cn.im (by simp) hk7 h;obtain ⟨au,cu,rfl,_,_⟩:=id hu;refine ldN [.int .i64 B.vars,v1,.slice (some ⟨be,oe,none⟩) B.ents.length ce,.int .i64 B.nat,v3] rfl (bZ h2) ?_;refine ab' (ko' (gn' hq hlt (oa' hc) 2000) (hvv.mono fun _ _ _ h=>h.tr k07) hu) ?_;rintro r w8 ⟨rfl,hk8⟩;refine i6 ?_;exact ⟨k + 1,by omega,rfl,⟨rfl,rfl,rfl,trivial⟩,hlt,(hk6.tr hk7).tr hk8⟩
  ·exact ⟨rfl,k06⟩
end
end Go.Proofs.YtdfmgkaecdkhnaaGreat
namespace Go.Wx
open Go.ChangeShapes Go.WideShapes Go.ChangeAt Go.RowKit
theorem lL' {H:Type} {enc:TypeId × Value -> H} {P:Program} (hl:laidOutB P = true) {W W':World} (hb:Below W.heap.size W W') :
  ∀ (ts:List TypeId) (vs:List Value) (ds:List (DataW H)) (ps:List MemPlace),(ts.all fun t=>P.readableRec t && Nat.blt t P.types.size) = true -> DataW.TrodAll enc P W 0 (fun _=>true) true ts vs ds ps ->
   (∀ x ∈ ps,x.block < W.heap.size) -> ∀ sp:Nat -> Bool,(∀ p ∈ ps,sp p.block = true) -> DataW.TrodAll enc P W' 0 sp true ts vs ds ps
 | [],vs,ds,ps,_,h,_,sp,_=>by
  obtain ⟨rfl,rfl,rfl⟩:=trodAll_nil h
  rfl
 | t :: ts,vs,ds,ps,hts,h,hlt,sp,hsp=>by
  obtain ⟨v,vs',d,ds',p,q,rfl,rfl,rfl,h0,h1⟩:=trodAll_cons h;simp only [List.all_cons,Bool.and_eq_true] at hts;refine ⟨p,q,?_,lL' hl hb ts _ _ _ hts.2 h1 (fun x hx=>hlt x (by simp [hx])) sp (fun x hx=>hsp x (by simp [hx])),rfl⟩;exact WideElems.Trod_stays hl hts.1.1 (by simpa [Nat.blt_eq] using hts.1.2) h0 (fun x hx=>hb.same (hlt x (by simp [hx]))) (fun x hx=>hsp x (by simp [hx]))
theorem rn' {H:Type} {enc:TypeId × Value -> H} {P:Program} {f:Func} {s:ChangeSpec} {apart fresh handsOn:Bool} {W W':World} {args:Array Value} {ds gs:List (DataW H)} {before:List MemPlace} {tb:TypeId}
  (hl:laidOutB P = true) (hts:(f.params.toList.all fun t=>P.readableRec t && Nat.blt t P.types.size) = true) (hrt:f.resultTypes = #[tb]) (hb:P.underlying tb = some .bool)
  (hW:DataW.Whole enc P f.params.toList s.vars apart W args.toList ds gs before) (hs:s.vars = []) (hres:(s.fn H ds).results = [.lit (.bool true)]) (hargs:(s.fn H ds).args = ds) (hvars:(s.fn H ds).vars = [])
  (hk:Kp [] W W'):s.post enc P f apart fresh handsOn false W args (.bool true) W':=by
 have hW':=hW;obtain ⟨p,q,hA,hV,rfl,hfz,hnd⟩:=hW;rw [hs] at hV;obtain ⟨rfl,rfl⟩:=trodVars_none hV;have hbl:=hk.below;have hlt:∀ x ∈ p,x.block < W.heap.size:=fun x hx=>hW'.lt x (by simp [hx]);refine ⟨ds,[],p ++ [],[],p,[],hW',?_,?_,?_,?_,fun h=>by cases h⟩
 ·rw [JD,hres,hrt]
  exact trodAll_mk1 (shut_bool hb true)
 ·rw [JD,hargs]
  exact lL' hl hbl _ _ _ _ hts hA hlt _ fun x hx=>by simpa using hlt x hx
 ·rw [JD,hvars,hs]
  rfl
 ·exact hbl.frame _
end Go.Wx
namespace Go.Proofs.YtdfmgkaecdkhnaaGreat
open Go.Wx Go.ChangeShapes Go.WideShapes Go.ChangeAt Go.RowKit
theorem td' {H:Type} (d:DataW H):1 <= Rows.uptoBulk d:=by
 cases d with
 | lit l=>cases l <;> simp [Rows.uptoBulk]
 | nil=>simp [Rows.uptoBulk]
 | ptr d=>simp [Rows.uptoBulk]
 | slice elems spare=>simp [Rows.uptoBulk]
 | agg parts=>simp [Rows.uptoBulk]
 | iface t d=>simp [Rows.uptoBulk]
 | map entries=>simp [Rows.uptoBulk]
 | held h=>simp [Rows.uptoBulk]
theorem iu' {H:Type} {d:DataW H} {l:List (DataW H)} (h:d ∈ l):Rows.uptoBulk d <= Rows.uptoBulkAll l:=by
 induction l with
 | nil=>cases h
 | cons x r ih =>
  simp only [Rows.uptoBulkAll];cases List.mem_cons.1 h with
  | inl e=>subst e; omega
  | inr e=>have:=ih e; omega
theorem te' {H:Type} (l:List (DataW H)):l.length <= Rows.uptoBulkAll l:=by
 induction l with
 | nil=>simp [Rows.uptoBulkAll]
 | cons x r ih=>have:=td' x; simp only [Rows.uptoBulkAll,JV]; omega
theorem uX' {H:Type} {l:List (DataW H)} (hk:Rows.uptoSmall H l = true):Rows.uptoBulkAll l <= 1048576:=of_decide_eq_true hk
theorem tf' {H:Type} (l r:List (DataW H)):Rows.uptoBulkAll (l ++ r) = Rows.uptoBulkAll l + Rows.uptoBulkAll r:=by
 induction l with
 | nil=>simp [Rows.uptoBulkAll]
 | cons x l ih=>simp only [List.cons_append,Rows.uptoBulkAll,ih]; omega
theorem bU' {H:Type} {xs:List (DataW H × List MemPlace)} {x:DataW H × List MemPlace} (hx:x ∈ xs) (hB:Rows.uptoBulk (.agg (xs.map (·.1))) <= 1048576):Rows.uptoBulk x.1 <= 1048576:=by
 have:=iu' (List.mem_map_of_mem (f:=(·.1)) hx);simp only [Rows.uptoBulk] at hB;omega
section
variable {H:Type} {enc:TypeId × Value -> H} {w:World} {spare:Nat -> Bool} {held:Bool}
theorem mL' {a:Addr} {v:Value} (h:w.cell? a = some v):∃ b o,a = ⟨b,o,none⟩:=by
 obtain ⟨b,o,s⟩:=a;unfold World.cell? at h;split at h
 ·rename_i c T fz hb
  cases s with
  | none=>exact ⟨b,o,rfl⟩
  | some _=>simp at h
 ·cases h
theorem tg' {α:Type} [Inhabited α] {t e:TypeId} (R:Rd α) (hk:0 < R.sz) (ht:Tryz.prog.underlying t = some (.slice e)) (hc:Tryz.prog.cellsOf e = R.sz) (ok:DataW H -> Prop)
  (one:∀ (cs:List Value) (n:Nat) (y:DataW H × List MemPlace),cs.length = R.sz -> DataW.trod enc Tryz.prog w 0 spare held n e cs = some y -> ok y.1 -> ∃ x:α,R.den (Old w) cs x)
  {fuel:Nat} {v:Value} {x:DataW H × List MemPlace} (h:DataW.trod enc Tryz.prog w 0 spare held fuel t [v] = some x) (hok:∀ es sp,x.1 = .slice es sp -> ∀ d ∈ es,ok d) :
  ∃ (a:Option Addr) (l:List α) (cap:Nat),v = .slice a l.length cap /\ (l.length <= 1099511627776 -> Sl R (Old w) a l) /\ (l.length = 0 \/ ∃ es sp,x.1 = .slice es sp /\ es.length = l.length):=by
 rcases Go.Deep.open_slice ht h with ⟨h1,rfl⟩ | ⟨a,len,cap,m,n,D,Pl,h1,hb,hl,hm,hmm,rfl,hx⟩
 ·simp only [List.cons.injEq,and_true] at h1
  subst h1;exact ⟨none,[],0,rfl,fun _=>Sl.nil _ _ _,.inl rfl⟩
 simp only [List.cons.injEq,and_true] at h1;subst h1;have hlm:len <= m:=by rw [hmm]; split <;> omega
 rw [hc] at hx;have each:∀ i,i < len -> ∃ q:α × List Value,R.den (Old w) q.2 q.1 /\ ∀ j u,q.2[j]? = some u -> w.cell? (a.add (i * R.sz + j)) = some u:=by
  intro i hi;obtain ⟨cs',h1,h2⟩:=hx i (by omega);obtain ⟨_,hlen,hcell⟩:=World.cells?_some h1;obtain ⟨x,hx⟩:=one cs' n _ hlen h2 (hok _ _ rfl _ (List.mem_map.2 ⟨i,by simpa using hi,rfl⟩));refine ⟨(x,cs'),hx,fun j u hu=>?_⟩;have hj:j < R.sz:=by rw [<- hlen]; exact ak' hu
  rw [<- Go.Deep.add_add,hcell j hj];exact hu
 obtain ⟨q,hq⟩:=Go.Deep.choose_lt each;refine ⟨some a,(List.range len).map fun i=>(q i).1,cap,by simp,fun hbig=>⟨hbig,?_⟩,.inr ⟨_,_,rfl,by simp⟩⟩
 by_cases h0:len = 0
 ·exact .inl (by simp [h0])
 obtain ⟨hd0,hz⟩:=hq 0 (by omega);have hl0:=R.len hd0;obtain ⟨u0,hu0⟩:∃ u,(q 0).2[0]? = some u:=⟨(q 0).2[0]'(by omega),by simp⟩
 have hz0:=hz 0 u0 hu0;rw [Nat.zero_mul,Nat.add_zero] at hz0;have hz':w.cell? a = some u0:=by simpa [Addr.add] using hz0
 obtain ⟨b,o,rfl⟩:=mL' hz';refine .inr ⟨b,o,rfl,fun i x hi=>?_⟩;rw [JX] at hi;have hil:i < len:=by
  rcases Nat.lt_or_ge i len with h | h
  ·exact h
  ·rw [List.getElem?_eq_none (by simpa using h)] at hi; cases hi
 rw [List.getElem?_range hil] at hi;have hi:=JB hi;subst hi;obtain ⟨hdi,hci⟩:=hq i hil;refine ⟨(q i).2,hdi,fun j u hj=>Cl.of ?_⟩;have:=hci j u hj;rw [dO'] at this;rw [Nat.add_assoc];exact this
theorem uY' {α:Type} [Inhabited α] {t e:TypeId} (R:Rd α) (hk:0 < R.sz) (ht:Tryz.prog.underlying t = some (.slice e)) (hc:Tryz.prog.cellsOf e = R.sz)
  (one:∀ (cs:List Value) (n:Nat) (y:DataW H × List MemPlace),cs.length = R.sz -> DataW.trod enc Tryz.prog w 0 spare held n e cs = some y -> Rows.uptoBulk y.1 <= 1048576 -> ∃ x:α,R.den (Old w) cs x)
  {fuel:Nat} {v:Value} {x:DataW H × List MemPlace} (h:DataW.trod enc Tryz.prog w 0 spare held fuel t [v] = some x) (hB:Rows.uptoBulk x.1 <= 1048576):∃ l,(rSl R).den (Old w) [v] l:=by
 obtain ⟨a,l,cap,h1,h2,h3⟩:=tg' R hk ht hc (fun d=>Rows.uptoBulk d <= 1048576) one h (fun es sp e d hd=>by
  rw [e] at hB;have:=iu' hd;simp only [Rows.uptoBulk] at hB;omega)
 refine ⟨l,a,cap,by rw [h1],h2 ?_⟩;rcases h3 with h3 | ⟨es,sp,e,hl⟩
 ·omega
 ·rw [e] at hB
  have:=te' es;simp only [Rows.uptoBulk] at hB;omega
end
end Go.Proofs.YtdfmgkaecdkhnaaGreat
namespace Go.Proofs.YtdfmgkaecdkhnaaGreat
open Go.Wx Cd Tm Lv Go.ChangeShapes Go.WideShapes Go.ChangeAt Go.RowKit
instance:Inhabited Nd:=⟨⟨0,0,0⟩⟩
instance:Inhabited aZ':=⟨⟨0,0,0⟩⟩
instance:Inhabited BoT:=⟨⟨0,[],[],-1,[]⟩⟩
section
variable {H:Type} {enc:TypeId × Value -> H} {w:World} {spare:Nat -> Bool} {held:Bool}
theorem uZ' {z:Int} (h:(Lit.int .i64 z).wf = true):I64 z:=by
 simpa [I64,Lit.wf,IntKind.min,IntKind.max,IntKind.signed,IntKind.bits] using h
theorem fX' {α:Type} [Inhabited α] {t e:TypeId} (R:Rd α) (hk:0 < R.sz) (ht:Tryz.prog.underlying t = some (.slice e)) (hc:Tryz.prog.cellsOf e = R.sz)
  (one:∀ (cs:List Value) (n:Nat) (y:DataW H × List MemPlace),cs.length = R.sz -> DataW.trod enc Tryz.prog w 0 spare held n e cs = some y -> Rows.uptoBulk y.1 <= 1048576 -> ∃ x:α,R.den (Old w) cs x)
  {fuel:Nat} {v:Value} {x:DataW H × List MemPlace} (h:DataW.trod enc Tryz.prog w 0 spare held fuel t [v] = some x) (hB:Rows.uptoBulk x.1 <= 1048576):∃ l,SV R (Old w) l v:=by
 obtain ⟨l,a,c,e,hs⟩:=uY' R hk ht hc one h hB;have e:v = .slice a l.length c:=by simpa using e
 refine ⟨l,a,c,e,hs,?_⟩;rcases Go.Deep.open_slice ht h with ⟨h1,rfl⟩ | ⟨a',len,cap,m,k,D,Pl,h1,hb,hl,_⟩
 ·rw [e] at h1
  have h1:=(List.cons.inj h1).1;injection h1 with q1 q2 q3
  omega
 ·rw [e] at h1
  have h1:=(List.cons.inj h1).1;injection h1 with q1 q2 q3
  omega
theorem cU' {n:Nat} {cs:List Value} {y:DataW H × List MemPlace} (hn:DataW.trod enc Tryz.prog w 0 spare held n 3 cs = some y):∃ z,cs = [.int .i64 z] /\ I64 z:=by
 obtain ⟨z,rfl,rfl,hw⟩:=DataW.trod_int Tryz.underlying3 hn;exact ⟨z,rfl,uZ' hw⟩
theorem vc' {n:Nat} {cs:List Value} {y:DataW H × List MemPlace} (hl:cs.length = 3) (hn:DataW.trod enc Tryz.prog w 0 spare held n 45 cs = some y):∃ x,rNd.den (Old w) cs x:=by
 obtain ⟨xs,m,rfl,rfl,_,hxl,hf⟩:=DataW.trod_struct Tryz.underlying45 hn
 match cs,hl,xs,hxl with
 | [c0,c1,c2],_,[x0,x1,x2],_ =>
  have g0:=hf 0 _ rfl;have g1:=hf 1 _ rfl;have g2:=hf 2 _ rfl;simp [show Tryz.prog.cellsOf 3 = 1 by kernel_rfl] at g0 g1 g2;obtain ⟨z0,e0,w0⟩:=cU' g0;obtain ⟨z1,e1,w1⟩:=cU' g1;obtain ⟨z2,e2,w2⟩:=cU' g2;simp at e0 e1 e2;subst e0 e1 e2;exact ⟨⟨z0,z1,z2⟩,rfl,w0,w1,w2⟩
theorem vd' {n:Nat} {cs:List Value} {y:DataW H × List MemPlace} (hl:cs.length = 3) (hn:DataW.trod enc Tryz.prog w 0 spare held n 156 cs = some y):∃ x,rOr.den (Old w) cs x:=by
 obtain ⟨xs,m,rfl,rfl,_,hxl,hf⟩:=DataW.trod_struct Tryz.underlying156 hn
 match cs,hl,xs,hxl with
 | [c0,c1,c2],_,[x0,x1,x2],_ =>
  have g0:=hf 0 _ rfl;have g1:=hf 1 _ rfl;have g2:=hf 2 _ rfl;simp [show Tryz.prog.cellsOf 3 = 1 by kernel_rfl] at g0 g1 g2;obtain ⟨z0,e0,w0⟩:=cU' g0;obtain ⟨z1,e1,w1⟩:=cU' g1;obtain ⟨z2,e2,w2⟩:=cU' g2;simp at e0 e1 e2;subst e0 e1 e2;exact ⟨⟨z0,z1,z2⟩,rfl,w0,w1,w2⟩
theorem ve' {n:Nat} {cs:List Value} {y:DataW H × List MemPlace} (hl:cs.length = 2) (hn:DataW.trod enc Tryz.prog w 0 spare held n 125 cs = some y):∃ x,rPr.den (Old w) cs x:=by
 obtain ⟨xs,m,rfl,rfl,_,hxl,hf⟩:=DataW.trod_struct Tryz.underlying125 hn
 match cs,hl,xs,hxl with
 | [c0,c1],_,[x0,x1],_ =>
  have g0:=hf 0 _ rfl;have g1:=hf 1 _ rfl;simp [show Tryz.prog.cellsOf 3 = 1 by kernel_rfl] at g0 g1;obtain ⟨z0,e0,w0⟩:=cU' g0;obtain ⟨z1,e1,w1⟩:=cU' g1;simp at e0 e1;subst e0 e1;exact ⟨(z0,z1),rfl,w0,w1⟩
theorem fB' {n:Nat} {v:Value} {y:DataW H × List MemPlace} (hn:DataW.trod enc Tryz.prog w 0 spare held n 33 [v] = some y) (hB:Rows.uptoBulk y.1 <= 1048576):∃ l,SV rNd (Old w) l v :=
 fX' rNd (by decide) Tryz.underlying33 (by kernel_rfl) (fun cs n y hl hn hb=>vc' hl hn) hn hB
theorem eA' {n:Nat} {v:Value} {y:DataW H × List MemPlace} (hn:DataW.trod enc Tryz.prog w 0 spare held n 37 [v] = some y) (hB:Rows.uptoBulk y.1 <= 1048576):∃ l,SV (rSk rNd) (Old w) l v :=
 fX' (rSk rNd) Nat.one_pos Tryz.underlying37 (by kernel_rfl) (fun cs n y hl hn hb=>by
  match cs,hl with
  | [c],_ =>
   obtain ⟨l,a,cc,rfl,hs,hcap⟩:=fB' hn hb;exact ⟨l,a,cc,rfl,hcap,hs⟩) hn hB
theorem vf' {n:Nat} {cs:List Value} {y:DataW H × List MemPlace} (hl:cs.length = 2) (hn:DataW.trod enc Tryz.prog w 0 spare held n 47 cs = some y) (hB:Rows.uptoBulk y.1 <= 1048576):∃ x,rCt.den (Old w) cs x:=by
 obtain ⟨xs,m,rfl,rfl,_,hxl,hf⟩:=DataW.trod_struct Tryz.underlying47 hn
 match cs,hl,xs,hxl with
 | [c0,c1],_,[x0,x1],_ =>
  have g0:=hf 0 _ rfl;have g1:=hf 1 _ rfl;simp [show Tryz.prog.cellsOf 37 = 1 by kernel_rfl] at g0 g1;obtain ⟨l0,h0⟩:=eA' g0 (bU' (x:=x0) (by simp) hB);obtain ⟨l1,h1⟩:=eA' g1 (bU' (x:=x1) (by simp) hB);exact ⟨⟨l0,l1⟩,_,_,rfl,h0,h1⟩
theorem vg' {n:Nat} {cs:List Value} {y:DataW H × List MemPlace} (hl:cs.length = 7) (hn:DataW.trod enc Tryz.prog w 0 spare held n 40 cs = some y) (hB:Rows.uptoBulk y.1 <= 1048576):∃ x,rEn.den (Old w) cs x:=by
 obtain ⟨xs,m,rfl,rfl,_,hxl,hf⟩:=DataW.trod_struct Tryz.underlying40 hn
 match cs,hl,xs,hxl with
 | [c0,c1,c2,c3,c4,c5,c6],_,[x0,x1,x2,x3,x4,x5,x6],_ =>
  have g0:=hf 0 _ rfl;have g1:=hf 1 _ rfl;have g2:=hf 2 _ rfl;have g3:=hf 3 _ rfl;have g4:=hf 4 _ rfl;have g5:=hf 5 _ rfl;have g6:=hf 6 _ rfl;simp [show Tryz.prog.cellsOf 3 = 1 by kernel_rfl,show Tryz.prog.cellsOf 37 = 1 by kernel_rfl,show Tryz.prog.cellsOf 33 = 1 by kernel_rfl,show Tryz.prog.cellsOf 38 = 1 by kernel_rfl] at g0 g1 g2 g3 g4 g5 g6;obtain ⟨z0,e0,w0⟩:=cU' g0;obtain ⟨l1,h1⟩:=fB' g1 (bU' (x:=x1) (by simp) hB);obtain ⟨l2,h2⟩:=eA' g2 (bU' (x:=x2) (by simp) hB);obtain ⟨l3,h3⟩:=eA' g3 (bU' (x:=x3) (by simp) hB);obtain ⟨l4,h4⟩:=fX' rCt (by decide) Tryz.underlying38 (by kernel_rfl) (fun cs n y hl hn hb=>vf' hl hn hb) g4 (bU' (x:=x4) (by simp) hB);obtain ⟨l5,h5⟩:=fB' g5 (bU' (x:=x5) (by simp) hB);obtain ⟨l6,h6⟩:=fB' g6 (bU' (x:=x6) (by simp) hB);simp at e0;subst e0;exact ⟨⟨z0,l1,l2,l3,l4,l5,l6⟩,_,_,_,_,_,_,rfl,w0,h1,h2,h3,h4,h5,h6⟩
theorem vh' {n:Nat} {cs:List Value} {y:DataW H × List MemPlace} (hl:cs.length = 5) (hn:DataW.trod enc Tryz.prog w 0 spare held n 26 cs = some y) (hB:Rows.uptoBulk y.1 <= 1048576):∃ x,rBo.den (Old w) cs x:=by
 obtain ⟨xs,m,rfl,rfl,_,hxl,hf⟩:=DataW.trod_struct Tryz.underlying26 hn
 match cs,hl,xs,hxl with
 | [c0,c1,c2,c3,c4],_,[x0,x1,x2,x3,x4],_ =>
  have g0:=hf 0 _ rfl;have g1:=hf 1 _ rfl;have g2:=hf 2 _ rfl;have g3:=hf 3 _ rfl;have g4:=hf 4 _ rfl;simp [show Tryz.prog.cellsOf 3 = 1 by kernel_rfl,show Tryz.prog.cellsOf 22 = 1 by kernel_rfl,show Tryz.prog.cellsOf 23 = 1 by kernel_rfl,show Tryz.prog.cellsOf 24 = 1 by kernel_rfl] at g0 g1 g2 g3 g4;obtain ⟨z0,e0,w0⟩:=cU' g0;obtain ⟨l1,h1⟩:=fX' rOr (by decide) Tryz.underlying22 (by kernel_rfl) (fun cs n y hl hn hb=>vd' hl hn) g1 (bU' (x:=x1) (by simp) hB);obtain ⟨l2,h2⟩:=fX' rEn (by decide) Tryz.underlying23 (by kernel_rfl) (fun cs n y hl hn hb=>vg' hl hn hb) g2 (bU' (x:=x2) (by simp) hB);obtain ⟨z3,e3,w3⟩:=cU' g3;obtain ⟨l4,h4⟩:=fX' rPr (by decide) Tryz.underlying24 (by kernel_rfl) (fun cs n y hl hn hb=>ve' hl hn) g4 (bU' (x:=x4) (by simp) hB);simp at e0 e3;subst e0 e3;exact ⟨⟨z0,l1,l2,z3,l4⟩,_,_,_,rfl,w0,w3,h1,h2,h4⟩
end
section
variable {H:Type} {enc:TypeId × Value -> H} {w:World} {spare:Nat -> Bool} {held:Bool}
theorem ro' {r:Reach} {b0:Nat} {v:Value} {d:DataW H} {ps:List MemPlace} (hval:Value.okWide Tryz.prog w r b0 26 v) (h:DataW.Trod enc Tryz.prog w 0 spare held 26 v d ps) (hB:Rows.uptoBulk d <= 1048576) :
  ∃ x,BoV (Im [] w) x v:=by
 obtain ⟨cs,rfl,hs⟩:=okWide_struct Tryz.underlying26 hval;obtain ⟨fuel,hf0⟩:=h;have hsz:cs.size = 5:=by rw [hs]; kernel_rfl
 obtain ⟨x,v1,v2,v3,e0,i0,i1,h1,h2,h3⟩:=vh' (cs:=cs.toList) (by simpa using hsz) (by simpa [Value.cells] using hf0) hB;have e1:cs = #[.int .i64 x.vars,v1,v2,.int .i64 x.nat,v3]:=by
  have:=congrArg List.toArray e0
  simpa using this
 subst e1;exact ⟨x,BoV.mono (C:=Old w) ⟨v1,v2,v3,rfl,h1,h2,h3⟩ fun b o v h=>⟨Old.sub w _ _ _ h,by simp⟩⟩
end
end Go.Proofs.YtdfmgkaecdkhnaaGreat
