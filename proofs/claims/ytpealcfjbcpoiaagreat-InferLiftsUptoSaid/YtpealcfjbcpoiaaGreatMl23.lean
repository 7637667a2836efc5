import Derived.Test.YtpealcfjbcpoiaaGreatMl22
import Derived.Test.YtpealcfjbcpoiaaGreatRows
import Derived.ProofKit
import Derived.OpenShut
import Derived.Deep.Slices
import Derived.JoinedCond
set_option linter.unusedVariables false
set_option linter.unusedSimpArgs false
set_option maxRecDepth 100000
set_option maxHeartbeats 4000000
namespace Go.Proofs.YtpealcfjbcpoiaaGreat
open Go.Wx Cd Tm Lv
section
variable {B:BoT} {c c':Ctx} {k:Nat} {x:Tr} {rc:RcJ}
theorem nf' (hB:GoodB B) {N:Nat} (hN:N <= 260) {K:Nat} {a:Int} (hF:vF' B a) {ps:List Tr} (hp:∀ y ∈ ps,Ft (QB B) (N:Int) y) (hpl:ps.length = (psM B a).length):∀ (r i:Nat) (c c':Ctx) (m:Tr) (n:Nat),i + r <= (qiM B a).length + 1 -> c.length = N + i -> Ins (K + i) c c' -> CxOk B c -> c.length <= 260 -> Ft (QB B) (c.length:Int) m ->
  Lu (fun _=>True) id (hG' B a ps (qiM B a).length r i c m n) (hG' B a (ps.map (up K)) (qiM B a).length r i c' (up ((K + i:Nat):Int) m) n)
 | 0,i,c,c',m,n,hi,hc,hins,hcx,hl,hm=>by
  simp only [hG'];refine (fp' hB hins hcx hl hm n).bd fun f n hf=>?_;rw [aQ' hf.2.ok,aV' hf.2.ok,bF',List.length_map];refine Lu.ite (fun _=>.er 16) fun g=>.ok ?_ trivial;rw [gi' (by omega)]
  rfl
 | r + 1,i,c,c',m,n,hi,hc,hins,hcx,hl,hm=>by
  simp only [hG'];refine (fp' hB hins hcx hl hm n).bd fun f n hf=>?_;rw [aQ' hf.2.ok,aV' hf.2.ok,bF',List.length_map];refine Lu.ite (fun _=>.er 16) fun g=>?_;obtain ⟨w1,w2⟩:=uh' (N:=(N:Int)) (by omega) (by omega) (K:=(K:Int)) (by omega) hF hp hpl i (by omega);rw [show (K:Int) + (i:Int) = ((K + i:Nat):Int) by omega] at w1;refine (Lu.pu (R:=Ft (QB B) (c.length:Int)) w1 n fun z hz=>(w2 z hz).mono (by omega)).bd fun w n hw=>?_;obtain ⟨hkl,k0,k1⟩:=aB' hf.2.head (.inl (by omega));obtain ⟨e0,e1⟩:=fo' (j:=((K + i:Nat):Int)) hf.2.head.ok (.inl (by omega)) hkl;rw [e0,e1];refine (nd' hB hins hcx hl k0 hw false n).bd fun b n hb=>Lu.ite (fun _=>?_) fun _=>.er 16;have:=nf' hB hN hF hp hpl r (i + 1) (c ++ [(kidD (headT f) 0,none)]) _ (kidD (headT f) 1) n (by omega) (by simp; omega) (hins.snocN (kidD (headT f) 0)) (hQ' hcx k0) (by simp; omega) (by rw [ci']; exact k1);rw [show ((K + (i + 1):Nat):Int) = ((K + i:Nat):Int) + 1 by omega] at this;exact this
theorem fW' (hB:GoodB B) (h:rW' B rc) (hi:Ins k c c') (hcx:CxOk B c) (hl:c.length <= 260) {a:Int} (hF:vF' B a) (ha:ev' B B.ents.length a = true) {qs:List Tr} (hq:∀ y ∈ qs,Ft (QB B) (c.length:Int) y) (hql:qs.length = (psM B a).length) {mo:Tr} (hmo:Ft (QB B) (c.length:Int) mo):∀ (l:List Tr) (j n:Nat),j + l.length <= (cr' B a).ctors.length -> (∀ y ∈ l,Ft (QB B) (c.length:Int) y) ->
  Lu (fun _=>True) id (aE' B rc c a qs mo j l n) (aE' B rc c' a (qs.map (up k)) (up k mo) j (l.map (up k)) n)
 | [],j,n,_,_=>.ok rfl trivial
 | b :: r,j,n,hk,hy=>by
  simp only [aE',List.map_cons];simp only [JV] at hk;refine (Lu.pu (R:=Ft (QB B) (c.length:Int)) (nI' (K:=(k:Int)) (by omega) (by omega) (by omega) hF (b:=j) (by omega) hq hql hmo) n fun z hz=>fh' hB (by omega) (by omega) ha (by omega) (by omega) hq hql hmo hz).bd fun ty n hty=>?_;exact (gx' hB h hi hcx hl (hy b (by simp)) hty n).bd fun _ n _=>fW' hB h hi hcx hl hF ha hq hql hmo r (j + 1) n (by omega) fun y hz=>hy y (by simp [hz])
theorem qk' (hB:GoodB B) (h:rW' B rc) (hi:Ins k c c') (hcx:CxOk B c) (hl:c.length <= 260) (hx:Ft (QB B) (c.length:Int) x) (h11:x.n.op = 11) (n:Nat):Lu (Ft (QB B) (c.length:Int)) (up k) (ew' B rc c x.n (kidsT x) n) (ew' B rc c' (up k x).n (kidsT (up k x)) n):=by
 obtain ⟨l1,l2,l3,kf⟩:=ej' hx h11;have ha:=jk' hx.node' (.inr h11);have hF:=wv' hB ha;have k0:Ft (QB B) (c.length:Int) ((kidsT x).getD 0 (varX 0)):=kf _ (bx' (by omega));have k1:Ft (QB B) (c.length:Int) ((kidsT x).getD 1 (varX 0)):=kf _ (bx' (by omega));rw [gi' (x:=x) (by omega),gv' hx.ok (by omega) (by omega)];unfold ew' hH';simp only;rw [cB' _ (by omega),cB' _ (by omega)];refine (h k c c' _ n hi hcx hl k1).bd fun ty n hty=>(fp' hB hi hcx hl hty n).bd fun z n hz=>?_;have en:(headT (up k z)).n.op = 9 -> (headT (up k z)).n.a = (headT z).n.a:=fun e=>by
  rw [aQ' hz.2.ok,bF'] at e;rw [aQ' hz.2.ok,gi' (by omega)]
 have ec:((headT (up k z)).n.op ≠ 9 \/ (headT (up k z)).n.a ≠ x.n.a \/ (argsT (up k z)).length ≠ (psM B x.n.a).length + (qiM B x.n.a).length) ↔ ((headT z).n.op ≠ 9 \/ (headT z).n.a ≠ x.n.a \/ (argsT z).length ≠ (psM B x.n.a).length + (qiM B x.n.a).length):=by
  rw [aV' hz.2.ok,List.length_map]
  by_cases g:(headT (up k z)).n.op = 9
  ·rw [en g]
   rw [aQ' hz.2.ok,bF'] at g ⊢
  ·have g2:(headT z).n.op ≠ 9:=by rwa [aQ' hz.2.ok,bF'] at g
   exact ⟨fun _=>.inl g2,fun _=>.inl g⟩
 simp only [ec];simp only [<- List.map_drop,List.length_map,aV' hz.2.ok,<- List.map_take];refine Lu.ite (fun _=>.er 14) fun g1=>?_;refine Lu.ite (fun _=>.er 15) fun g2=>?_;refine (h k c c' _ n hi hcx hl k0).bd fun mt n hmt=>?_;have hps:∀ y ∈ (argsT z).take (psM B x.n.a).length,Ft (QB B) (c.length:Int) y:=fun y hy=>hz.2.args y (List.mem_of_mem_take hy);have hpl:((argsT z).take (psM B x.n.a).length).length = (psM B x.n.a).length:=by rw [List.length_take]; omega
 refine (nf' hB (N:=c.length) hl (K:=k) hF hps hpl _ 0 c c' mt n (by omega) (by omega) hi hcx hl hmt).bd fun kind n _=>?_;refine Lu.bd (R:=fun _=>True) (f:=id) ?_ fun s n _=>?_
 ·exact Lu.ite (fun _=>Lu.same fun _ _ _=>trivial) fun _=>.ok rfl trivial
 refine Lu.ite (fun _=>.er 17) fun _=>?_;have hall:∀ y ∈ (argsT z).drop (psM B x.n.a).length ++ [(kidsT x).getD 1 (varX 0)],Ft (QB B) (c.length:Int) y:=fun y hy=>by
  rcases List.mem_append.1 hy with hy | hy
  ·exact hz.2.args _ (List.mem_of_mem_drop hy)
  ·simp only [List.mem_singleton] at hy
   subst hy;exact k1
 refine (fW' hB h hi hcx hl hF ha hps hpl k0 _ 0 n (by rw [List.length_drop] at g2 ⊢; omega) fun y hy=>kf y (List.mem_of_mem_drop hy)).bd fun _ n _=>Lu.pu ?_ n fun v hv=>aL' (qk B) k0 hall hv;have:=dD' (k:=(k:Int)) k0.ok fun y hy=>(hall y hy).ok;rw [List.map_append,List.map_cons,List.map_nil] at this;exact this
theorem lV' (hx:Ft (QB B) (c.length:Int) x) (h12:x.n.op = 12) {i:Nat} (hi:i < x.n.b.toNat) (j:Int):kidD (up j x) (2 * i) = up j (kidD x (2 * i)) /\ kidD (up j x) (2 * i + 1) = up (j + x.n.b) (kidD x (2 * i + 1)):=by
 have hk:=bg' hx.ok h12;have e0:kb x.n (2 * i) = 0:=by
  unfold kb;rw [if_pos h12,if_neg (by omega)]
 have e1:kb x.n (2 * i + 1) = x.n.b:=by
  unfold kb;rw [if_pos h12,if_pos (by omega)]
 exact ⟨aW' hx.ok (by omega) (by omega) e0,dq' hx.ok (by omega) (by omega) e1⟩
theorem kV' (hB:GoodB B) (h:rW' B rc) (hi:Ins k c c') (hcx:CxOk B c) (hl:c.length <= 260) (hx:Ft (QB B) (c.length:Int) x) (h12:x.n.op = 12):∀ (r i n:Nat),i + r <= x.n.b.toNat -> Lu (fun _=>0 < r -> c.length <= 256) id (ex' B rc c x r i n) (ex' B rc c' (up k x) r i n)
 | 0,i,n,_=>.ok rfl fun h=>absurd h (by omega)
 | r + 1,i,n,hir=>by
  simp only [ex'];rw [(lV' hx h12 (i:=i) (by omega) k).1];exact (hT' hB h hi hcx hl (bt' hx h12 (i:=i) (by omega)).2.2.1 n).bd fun _ n hq=>(kV' hB h hi hcx hl hx h12 r (i + 1) n (by omega)).wk fun _ _ _=>hq.1
theorem iK' (hB:GoodB B) (h:rW' B rc) {d d':Ctx} (hi:Ins (k + x.n.b.toNat) d d') (hcx:CxOk B d) (hd:(d.length:Int) = c.length + x.n.b) (hl:d.length <= 260) (hx:Ft (QB B) (c.length:Int) x) (h12:x.n.op = 12):∀ (r i n:Nat),i + r <= x.n.b.toNat -> Lu (fun _=>True) id (cK' B rc d x x.n.b.toNat r i n) (cK' B rc d' (up k x) x.n.b.toNat r i n)
 | 0,i,n,_=>.ok rfl trivial
 | r + 1,i,n,hir=>by
  simp only [cK'];have hfl:=aG' hx.ok h12;obtain ⟨_,_,f1,f2⟩:=bt' hx h12 (i:=i) (by omega);obtain ⟨e0,e1⟩:=lV' hx h12 (i:=i) (by omega) k;rw [<- hd] at f2;have f3:=f1.lift (qk B) (b:=(x.n.b.toNat:Int)) (by omega) (by omega) (by omega);rw [e0,e1,<- cA' (qk B) f1 (by omega) (b:=(x.n.b.toNat:Int)) (k:=(k:Int)) (by omega) (by omega) (by omega),show (k:Int) + (x.n.b.toNat:Int) = ((k + x.n.b.toNat:Nat):Int) by omega,show (k:Int) + x.n.b = ((k + x.n.b.toNat:Nat):Int) by omega];exact (gx' hB h hi hcx hl f2 (f3.mono (by omega)) n).bd fun _ n _=>iK' hB h hi hcx hd hl hx h12 r (i + 1) n (by omega)
theorem ng' {K kind:Int} (l:List Atom):up K (et' kind l) = et' kind l:=by
 unfold up et';rw [cL' (by simp)]
 congr 1
 have:∀ (l:List Atom) (n:Nd) (i:Int),mK upF (l.map fun a=>(.mk ⟨3,a.var,a.add⟩ []:Tr)) n 0 i K = l.map fun a=>.mk ⟨3,a.var,a.add⟩ []:=by
  intro l
  induction l with
  | nil=>intro n i; rfl
  | cons a l ih =>
   intro n i;simp only [List.map_cons,mK];rw [ih,cL' (by simp)]
   rfl
 exact this l _ 0
theorem ql' (hB:GoodB B) (h:rW' B rc):rW' B (cZ' B rc):=by
 intro k c c' x n hi hcx hl hx;have h0:(0:Int) <= (c.length:Int):=by omega
 have hpb:=ba' hx.ok.pl;unfold cZ';rw [bF'];refine Lu.ite (fun g=>?_) fun g1=>Lu.ite (fun g=>?_) fun g2=>Lu.ite (fun g=>?_) fun g8=>Lu.ite (fun g=>?_) fun g9=>Lu.ite (fun g=>?_) fun g10=>Lu.ite (fun g=>?_) fun g4=>Lu.ite (fun g=>?_) fun g5=>Lu.ite (fun g=>?_) fun g6=>Lu.ite (fun g=>?_) fun g7=>Lu.ite (fun g=>?_) fun g11=>?_
 ·obtain ⟨n1,ks⟩:=x
  obtain ⟨v0,v1,_⟩:=hx.var_lt g;obtain ⟨c1,c2⟩:=hcx _ _ (cf' v0 v1);have e:=(hi.at hcx (by omega) v0 v1).1;refine .ok ?_ ((c1.lift (qk B) (b:=n1.a + 1) (by omega) (by omega) (by omega)).mono (by omega));rw [rU' g];exact e
 ·unfold nz'
  rw [mZ' hx.ok g];exact Lu.ite (fun _=>.er _) fun g1=>.ok (ng' _).symm (gr' (.inr rfl) (tL' (kC' hx g) (by omega)))
 ·obtain ⟨i,y,ty,bo,hii,hy,he,hd⟩:=hB.dfn hx.node' g
  have hf:Ft (QB B) 0 ty:=hd.ft.wk fun m hm=>dV' (Nat.le_of_lt (ai' hy)) hm;rw [gi' (by omega),he,hd.type,cJ' hd.ft.ok];exact .ok (cM' hf (by omega)).symm (hf.mono h0)
 ·rw [gi' (by omega)]
  refine Lu.pu (pW' fun z hz=>?_).symm n fun z hz=>(pu' hB (re' hx.node' g hpb.2.2.1) hz).mono h0;exact cM' (pu' hB (re' hx.node' g hpb.2.2.1) hz) (by omega)
 ·rw [gi' (by omega)]
  have hz0:∀ z,jr' B x.n.a x.n.b = .ok z -> Ft (QB B) 0 z:=fun z hz=>pv' hB (jk' hx.node' (.inl g)) hpb.1 (mE' hx.node' g) hz;exact Lu.pu (pW' fun z hz=>cM' (hz0 z hz) (by omega)).symm n fun z hz=>(hz0 z hz).mono h0
 ·unfold jpi
  obtain ⟨hkl,k0,k1⟩:=aB' hx (.inl g);obtain ⟨e0,e1⟩:=fo' (j:=(k:Int)) hx.ok (.inl g) hkl;rw [e0,e1];refine (hT' hB h hi hcx hl k0 n).bd fun p n hp=>?_;refine (hT' hB h (hi.snocN (kidD x 0)) (hQ' hcx k0) (by simp; omega) (by rw [ci']; exact k1) n).bd fun q n hq=>Lu.ite (fun _=>.er _) fun g1=>?_;exact .ok (ng' _).symm (gr' hq.2.1 (pw' hp.2.2 hq.2.2 (by simpa using g1)))
 ·unfold uA'
  obtain ⟨hkl,k0,k1⟩:=aB' hx (.inr g);obtain ⟨e0,e1⟩:=fo' (j:=(k:Int)) hx.ok (.inr g) hkl;rw [e0,e1];refine (hT' hB h hi hcx hl k0 n).bd fun p n hp=>(h (k + 1) _ _ _ n (hi.snocN (kidD x 0)) (hQ' hcx k0) (by simp; omega) (by rw [ci']; exact k1)).bd fun z n hz=>?_;rw [ci'] at hz;refine Lu.pu ?_ n fun v hv=>bN' (qk B) (hz.mono (by simp)) (fun i y hy=>?_) hv
  ·have:=ne' (ys:=[kidD x 0]) (N:=0) hz.ok (fun y hy=>by
    obtain rfl:y = kidD x 0:=by simpa using hy
    exact k0.ok) (k:Int)
   simpa using this
  ·have hi:=ai' hy
   obtain rfl:i = 0:=by simp at hi; omega
   simp only [List.getElem?_cons_zero,Option.some.injEq] at hy;subst hy;exact k0.mono (by omega)
 ·unfold tK'
  obtain ⟨hkl,k0,k1⟩:=jv' hx g;rw [aW' hx.ok (by omega) (i:=0) (by omega) (by simp [kb,aJ',g]),aW' hx.ok (by omega) (i:=1) (by omega) (by simp [kb,aJ',g])];refine (h k c c' _ n hi hcx hl k0).bd fun ty n hty=>(fp' hB hi hcx hl hty n).bd fun z n hz=>?_;rw [aQ' hz.2.ok,aV' hz.2.ok,bF',List.length_map];refine Lu.ite (fun _=>.er 12) fun g1=>?_;obtain ⟨hzl,z0,z1⟩:=aB' hz.2.head (.inl (by omega));obtain ⟨e0,e1⟩:=fo' (j:=(k:Int)) hz.2.head.ok (.inl (by omega)) hzl;rw [e0,e1];refine (gx' hB h hi hcx hl k1 z0 n).bd fun _ n _=>Lu.pu ?_ n fun v hv=>(az' (qk B) (v:=0) (z1.mono (by omega)) k1 h0 (by omega) (by omega) (by omega) hv).mono (by omega);have:=dt' (qk B) (N:=(c.length:Int)) (v:=0) (k:=(k:Int)) (z1.mono (by omega)) k1 (by omega) (by omega) (by omega) (by omega)
  rwa [Int.add_zero,Int.add_zero] at this
 ·unfold uB'
  obtain ⟨hkl,k0,k1,k2⟩:=gs' hx g;rw [aW' hx.ok (by omega) (i:=0) (by omega) (by simp [kb,aJ',g]),aW' hx.ok (by omega) (i:=1) (by omega) (by simp [kb,aJ',g]),dq' hx.ok (by omega) (i:=2) (b:=1) (by omega) (by simp [kb,aJ',g])];refine (hT' hB h hi hcx hl k0 n).bd fun p n hp=>(gx' hB h hi hcx hl k1 k0 n).bd fun _ n _=>?_;refine (h (k + 1) _ _ _ n (hi.snoc (kidD x 0) (some (kidD x 1))) (hcx.snoc k0 fun x hx=>by injection hx with hx; rw [<- hx]; exact k1) (by simp; omega) (by rw [ci']; exact k2)).bd fun z n hz=>?_;rw [ci'] at hz;refine Lu.pu ?_ n fun v hv=>(az' (qk B) (v:=0) (hz.mono (by omega)) k1 h0 (by omega) (by omega) (by omega) hv).mono (by omega);have:=dt' (qk B) (N:=(c.length:Int)) (v:=0) (k:=(k:Int)) (hz.mono (by omega)) k1 (by omega) (by omega) (by omega) (by omega)
  rwa [Int.add_zero,Int.add_zero] at this
 ·exact qk' hB h hi hcx hl hx g n
 ·have g12:x.n.op = 12:=by
   have:=px' hx.ok;omega
  have hfl:=aG' hx.ok g12;unfold sC';rw [rV' (by omega) hx g12,gi' (x:=x) (by omega)];refine (kV' hB h hi hcx hl hx g12 _ 0 n (by omega)).bd fun _ n hq=>Lu.ite (fun _=>.er _) fun _=>?_;have hq:=hq (by omega);have e2:((c ++ aI' x).length:Int) = (c.length:Int) + x.n.b:=by rw [JK,aK']; omega
  refine (iK' hB h (kS' hx g12 (by omega) hi) (fc' hcx (by omega) hx g12) e2 (by omega) hx g12 _ 0 n (by omega)).bd fun _ n _=>.ok ?_ (bt' hx g12 (i:=x.n.a.toNat) (by omega)).2.2.1;exact (lV' hx g12 (i:=x.n.a.toNat) (by omega) k).1
theorem kW' (hB:GoodB B):∀ g,rW' B (bO' B g)
 | 0=>fun k c c' x n _ _ _ _=>.er 10
 | g + 1=>ql' hB (kW' hB g)
end
abbrev CxR:=List (List Nd × List Nd)
def eG' (B:BoT) (c:CxR) (t:List Nd) (fuel:Int):Except Int (Tr × Nat):=if cm' B c t ≠ 0 then .error (cm' B c t) else fI' B (cxR c) (tr t) fuel
def checkI (B:BoT) (c:CxR) (t ty:List Nd) (fuel:Int):Except Int (Unit × Nat):=if cm' B c t ≠ 0 then .error (cm' B c t) else if cm' B c ty ≠ 0 then .error (cm' B c ty) else rH' B (cxR c) (tr t) (tr ty) fuel
def sortI (B:BoT) (c:CxR) (t:List Nd) (fuel:Int):Except Int ((Int × List Atom) × Nat):=if cm' B c t ≠ 0 then .error (cm' B c t) else tQ' B (cxR c) (tr t) fuel
def whnfI (B:BoT) (c:CxR) (t:List Nd) (fuel:Int):Except Int (Tr × Nat):=if cm' B c t ≠ 0 then .error (cm' B c t) else aM' B (cxR c) (tr t) fuel
theorem lW' (c:CxR):(cxR c).length = c.length:=by simp [cxR]
section
variable {B:BoT} {X:List Nat} {w:World} {c:CxR} {t ty:List Nd}
theorem fq' (hX:XL X w) {fuel:Int} {vb vc v:Value} (hb:BoV (Im X w) B vb) (hc:SV rBd (Im X w) c vc) (hv:SV rNd (Im X w) t v) :
  CC 8 #[vb,vc,v,.int .i64 fuel] w (vv' X w (eG' B c t fuel)):=by
 refine oF Tryz.func8 ?_;obtain ⟨RES,hRES⟩:∃ r,eG' B c t fuel = r:=⟨_,rfl⟩
 rw [hRES];unfold eG' at hRES;have hbb:=hb;obtain ⟨v1,v2,v3,rfl,_,_,_⟩:=hbb;obtain ⟨av,cv,rfl,_,_⟩:=id hv;obtain ⟨ac,cc,rfl,_,_⟩:=id hc;refine cO (args:=[_,_,_,_]) 27 [.tmp 8,.tmp 9,.tmp 10] τok Tryz.func8 ?_;refine new fun b4 w1 hb4 h4 hs1 hk1=>?_;have h4:Bk w1.heap b4 [.int .i64 B.vars,v1,v2,.int .i64 B.nat,v3] 26:=h4;have up1:∀ b o v,Im X w b o v -> Im X w1 b o v:=fun b o v h=>h.tr hk1;refine ldN [.int .i64 B.vars,v1,v2,.int .i64 B.nat,v3] rfl (bZ h4) ?_;refine ab' (jG' (Im.sub X w1) (fun _ _ _ h=>h.hold) (hb.mono up1) (hc.mono up1) (hv.mono up1)) ?_;rintro e w2 ⟨rfl,hk2⟩;have k02:=hk1.tr hk2;have h4:=h4.kp hk2 (by simp);refine ac' (fun g1=>?_) (fun g1=>?_)
 ·have g1:cm' B c t ≠ 0:=g1
  rw [if_pos g1] at hRES;subst hRES;exact ⟨rfl,k02⟩
 have g1:¬ cm' B c t ≠ 0:=g1;rw [if_neg g1] at hRES;obtain ⟨hB,hr,hl,hce,hcx,hte,hft⟩:=gt' (Decidable.not_not.1 g1);have up2:∀ b o v,Im X w b o v -> Im X w2 b o v:=fun b o v h=>h.tr k02;have hX2:=xU hX k02;refine ldN [.int .i64 B.vars,v1,v2,.int .i64 B.nat,v3] rfl (bZ h4) ?_;refine ab' (tR' (cx:=cxR c) (t:=tr t) (fuel:=fuel) hB hcx (by rw [lW']; omega) hX2 (by rw [lW']; exact hft) (hb.mono up2) (by rw [<- hce]; exact hc.mono up2) (by unfold TmV; rw [<- hte]; exact hv.mono up2)) ?_;rintro e w3 ⟨he,hk3⟩;rw [hRES] at he;cases RES with
 | error er =>
  obtain rfl:=he;exact ⟨rfl,k02.tr hk3⟩
 | ok q =>
  obtain ⟨u,rfl,hu⟩:=he;exact ⟨⟨u,rfl,hu⟩,k02.tr hk3⟩
end
theorem lX' {B:BoT} {c:CxR} {t mo:List Nd} {f:Int} (ht:cm' B c t = 0) (hm:cm' B c mo = 0) (hl:c.length <= 250) :
  Ft (QB B) (c.length:Int) (tr t) /\ t = row (tr t) /\ (eG' B (c ++ [(mo,[])]) (row (up 0 (tr t))) f = .error 5 \/ (eG' B (c ++ [(mo,[])]) (row (up 0 (tr t))) f = qr' (up 0) (eG' B c t f) /\ ∀ z n,eG' B c t f = .ok (z,n) -> Ft (QB B) (c.length:Int) z)):=by
 obtain ⟨hB,hr,_,hce,hcx,hte,hft⟩:=gt' ht;obtain ⟨_,_,_,_,_,hme,hmf⟩:=gt' hm;refine ⟨hft,hte,?_⟩;have hcl:=lW' c;have e1:cxR (c ++ [(mo,[])]) = cxR c ++ [(tr mo,none)]:=by simp [cxR]
 have e2:c ++ [(mo,[])] = (cxR c ++ [(tr mo,none)]).map bdR:=by
  rw [List.map_append,<- hce];show _ = c ++ [(row (tr mo),[])]
  rw [<- hme]
 have hup:=hft.up (qk B) (k:=0) (by omega);have hf':cm' B (c ++ [(mo,[])]) (row (up 0 (tr t))) = 0:=by
  rw [e2];refine jC' hr (hcx.snoc (by rw [hcl]; exact hmf) fun x hx=>by cases hx) (by simp; omega) (hup.mono ?_);simp;omega
 have hins:Ins 0 (cxR c) (cxR c ++ [(tr mo,none)]):=⟨by simp,by omega,fun i hi=>List.getElem?_append_left (by omega),fun i j q hi hq=>by
  have:=ai' hq;omega⟩
 have key:=kW' hB GJ 0 (cxR c) _ (tr t) (br' f) hins hcx (by omega) (by rw [hcl]; exact hft);rw [hcl] at key;unfold eG';rw [if_neg (by omega),if_neg (by omega),e1,cJ' hup.ok];exact key
def jL' (lim:Int):List (List Nd) -> Int -> Int
 | [],a=>a
 | l :: r,a=>if a < lim then jL' lim r (a + 1 + (l.length:Int)) else a
def szC (lim:Int):List CtT -> Int -> Int
 | [],a=>a
 | c :: r,a=>if a < lim then szC lim r (a + 1 + jL' lim c.args 0 + jL' lim c.out 0) else a
def szE (lim:Int):List EnT -> Int -> Int
 | [],a=>a
 | x :: r,a=>if a < lim then szE lim r (szC lim x.ctors (a + 1 + (x.sort.length:Int) + (x.type.length:Int) + (x.body.length:Int) + jL' lim x.params 0 + jL' lim x.indices 0)) else a
def nJ' (B:BoT) (lim:Int):Int:=szE lim B.ents ((B.orders.length:Int) + (B.prims.length:Int))
theorem ui' {lim a:Int} (h:¬ a < lim):∀ (l:List (List Nd)),jL' lim l a = a
 | []=>rfl
 | l :: r=>by simp only [jL']; rw [if_neg h]
theorem rX' {lim a:Int} (h:¬ a < lim):∀ (l:List CtT),szC lim l a = a
 | []=>rfl
 | l :: r=>by simp only [szC]; rw [if_neg h]
theorem rY' {lim a:Int} (h:¬ a < lim):∀ (l:List EnT),szE lim l a = a
 | []=>rfl
 | l :: r=>by simp only [szE]; rw [if_neg h]
section
variable {C:Mem} {w:World} {B:BoT}
theorem gy' (hS:Sub C w) {ls:List (List Nd)} {vl:Value} (hl:SV (rSk rNd) C ls vl) {lim:Int} (h0:0 <= lim /\ lim <= 100000) :
  CC 17 #[vl,.int .i64 lim] w (fun e w'=>(e = .returned (.int .i64 (jL' lim ls 0)) /\ 0 <= jL' lim ls 0 /\ jL' lim ls 0 <= 1200000000000) /\ Kp [] w w'):=by
 refine oF Tryz.func17 ?_;obtain ⟨RES,hRES⟩:∃ r,jL' lim ls 0 = r:=⟨_,rfl⟩
 rw [hRES];have hll:=hl;obtain ⟨al,cl,rfl,hl1,hl2⟩:=hl;have l1:=hl1.1;refine cO (args:=[_,_]) 27 [.tmp 4] τok Tryz.func17 ?_;refine lp τok (σ:=Nat × Int) (fun q=>[(0,.slice al ls.length cl),(1,.int .i64 lim),(5,.int .i64 q.2),(6,.int .i64 (q.1:Int))])
  (fun q w'=>q.1 <= ls.length /\ 0 <= q.2 /\ q.2 <= 1200000000000 /\ Kp [] w w' /\ jL' lim (ls.drop q.1) q.2 = RES) (fun q=>ls.length - q.1) (0,0) rfl
  ⟨rfl,rfl,rfl,rfl,trivial⟩ ⟨KV _,Int.le_refl _,by decide,Kp.refl _ _,hRES⟩ ?_
 clear hRES
 rintro ⟨i,a⟩ w1 ⟨hi,ha0,ha1,hk1,hres⟩;simp only at hi ha0 ha1 hres;have fin:jL' lim (ls.drop i) a = a -> (Ending.returned (Go.Wx.one [.int .i64 a]) = .returned (.int .i64 RES) /\ 0 <= RES /\ RES <= 1200000000000) /\ Kp [] w w1:=fun h=>by
  rw [h] at hres;subst hres;exact ⟨⟨rfl,ha0,ha1⟩,hk1⟩
 refine ac' (fun g=>?_) (fun g=>?_)
 ·have g:(i:Int) < (ls.length:Int):=g
  refine ac' (fun g2=>?_) (fun g2=>?_)
  ·have g2:a < lim:=g2
   obtain ⟨l,hl,hd⟩:=af' (l:=ls) (k:=i) (by omega);rw [hd] at hres;simp only [jL'] at hres;rw [if_pos g2] at hres;obtain ⟨b,o,c,pc,u,hu,hsu⟩:=pQ' hll hl;injection pc with q1 q2 q3
   subst q1 q3;obtain ⟨au,cu,rfl,hu1,_⟩:=id hsu;have lu:=hu1.1;refine i6 ?_;refine ix i rfl (by omega) ?_;refine ld (Cl.cell (hS.tr hk1 _ _ _ hu)) ?_;refine i6 ?_;refine i6 ?_;exact ⟨(i + 1,a + 1 + (l.length:Int)),by simp only; omega,rfl,⟨rfl,rfl,rfl,rfl,trivial⟩,by show i + 1 <= _; omega,by simp only; omega,by simp only; omega,hk1,hres⟩
  ·have g2:¬ a < lim:=g2
   exact fin (ui' g2 _)
 ·have g:¬ (i:Int) < (ls.length:Int):=g
  exact fin (by rw [JY (by omega)]; rfl)
theorem uj' (hS:Sub C w) {vb:Value} (hvb:BoV C B vb) {lim:Int} (h0:0 <= lim /\ lim <= 100000) :
  CC 10 #[vb,.int .i64 lim] w (fun e w'=>e = .returned (.int .i64 (nJ' B lim)) /\ Kp [] w w'):=by
 refine oF Tryz.func10 ?_;obtain ⟨RES,hRES⟩:∃ r,nJ' B lim = r:=⟨_,rfl⟩
 rw [hRES];unfold nJ' at hRES;obtain ⟨v1,v2,v3,rfl,hO,hE,hP⟩:=hvb;obtain ⟨ao,co,rfl,hO1,_⟩:=id hO;obtain ⟨ae,ce,rfl,hE1,_⟩:=id hE;obtain ⟨ap,cp,rfl,hP1,_⟩:=id hP;have lO:=hO1.1;have lE:=hE1.1;have lP:=hP1.1;refine cO (args:=[_,_]) 90 [.tmp 4] τok Tryz.func10 ?_;refine new fun b2 w1 hb2 h2 hs1 hk1=>?_;have h2:Bk w1.heap b2 [.int .i64 B.vars,.slice ao B.orders.length co,.slice ae B.ents.length ce,.int .i64 B.nat,.slice ap B.prims.length cp] 26:=h2;refine lb h2 ?_;refine lb h2 ?_;refine i6 ?_;refine lp τok (σ:=Nat × Int) (fun q=>[(1,.int .i64 lim),(2,pt b2),(5,.int .i64 q.2),(6,.int .i64 (q.1:Int))])
  (fun q w'=>q.1 <= B.ents.length /\ 0 <= q.2 /\ q.2 <= 100000000000000 /\ Kp [] w1 w' /\ szE lim (B.ents.drop q.1) q.2 = RES) (fun q=>B.ents.length - q.1) (0,(B.orders.length:Int) + (B.prims.length:Int)) rfl
  ⟨rfl,rfl,rfl,rfl,trivial⟩ ⟨KV _,by simp only; omega,by simp only; omega,Kp.refl _ _,hRES⟩ ?_
 clear hRES
 rintro ⟨i,a⟩ w2 ⟨hi,ha0,ha1,hk2,hres⟩;simp only at hi ha0 ha1 hres;have k02:=hk1.tr hk2;have h22:=h2.kp hk2 (by simp);have fin:szE lim (B.ents.drop i) a = a -> Ending.returned (Go.Wx.one [.int .i64 a]) = .returned (.int .i64 RES) /\ Kp [] w w2:=fun h=>by
  rw [h] at hres;subst hres;exact ⟨rfl,k02⟩
 refine lb h22 ?_;refine ac' (fun g=>?_) (fun g=>?_)
 ·have g:(i:Int) < (B.ents.length:Int):=g
  refine ac' (fun g2=>?_) (fun g2=>?_)
  ·have g2:a < lim:=g2
   obtain ⟨x,hx,hd⟩:=af' (l:=B.ents) (k:=i) (by omega);rw [hd] at hres;simp only [szE] at hres;rw [if_pos g2] at hres;obtain ⟨be,oe,ce',pe,hat⟩:=hE.at hx;obtain ⟨w1e,w2e,w3e,w4e,w5e,w6e,hcs,hki,hso,hpa,hin,hct,hty,hbo⟩:=eB' hat;injection pe with q1 q2 q3
   subst q1 q3;obtain ⟨as_,cs_,rfl,hso1,_⟩:=id hso;obtain ⟨apa,cpa,rfl,hpa1,_⟩:=id hpa;obtain ⟨ain,cin,rfl,hin1,_⟩:=id hin;obtain ⟨act,cct,rfl,hct1,_⟩:=id hct;obtain ⟨aty,cty,rfl,hty1,_⟩:=id hty;obtain ⟨abo,cbo,rfl,hbo1,_⟩:=id hbo;have m1:=hso1.1;have m2:=hct1.1;have m3:=hty1.1;have m4:=hbo1.1;refine lb h22 ?_;refine ix i rfl (by omega) ?_;refine ldN _ rfl (fun j u hj=>(hS.tr k02) _ _ _ (hcs j u hj)) ?_;refine new fun b7 w3 hb7 h7 hs3 hk3=>?_;refine stN (vs:=[.int .i64 x.kind,.slice as_ x.sort.length cs_,.slice apa x.params.length cpa,.slice ain x.indices.length cin,.slice act x.ctors.length cct,.slice aty x.type.length cty,.slice abo x.body.length cbo]) h7 rfl (by simp [Value.oneCell']) fun w4 h7 hs4 hk4=>?_;have k24:=hk3.newSt hb7 hk4;have k04:=k02.tr k24;have h7:Bk w4.heap b7 [.int .i64 x.kind,.slice as_ x.sort.length cs_,.slice apa x.params.length cpa,.slice ain x.indices.length cin,.slice act x.ctors.length cct,.slice aty x.type.length cty,.slice abo x.body.length cbo] 55:=h7;refine as' τok (fun z=>Kp [] w4 z) ?_;refine rV τok [0,1,2,3,4,5,6,7,8,9,10,11,12,13,14,15,16,19,20,21] 5 (mB 25 [17,18,22,23,24]) (kQd w4) ?_;refine i6 ?_;refine lk h7 ?_;refine i6 ?_;refine lk h7 ?_;refine i6 ?_;refine lk h7 ?_;refine i6 ?_;refine lk h7 ?_;refine lk h7 ?_;refine nV τok 17 4 (mB 25 [18,22,23,24]) ?_;refine ab' (gy' (w:=(dr w4)) (hS.tr (k04.dr _)) hpa h0) ?_;rintro e w5 ⟨⟨rfl,p0,p1⟩,hk5⟩;have hk5:Kp [] w4 w5:=hk5.rd;refine ⟨.inl hk5,?_⟩;refine rV τok [18] 3 (mR 25 22) hk5 ?_;refine i6 ?_;refine nV τok 22 2 (mR 25 23) ?_;refine ab' (gy' (hS.tr (k04.tr hk5)) hin h0) ?_;rintro e w6 ⟨⟨rfl,i0,i1⟩,hk6⟩;have k46:=hk5.tr hk6;refine ⟨.inl k46,?_⟩;refine rV τok [23,24] 0 (mR 25 25) k46 ?_;refine i6 ?_;refine dV ?_;obtain ⟨a1,ha1'⟩:∃ a1,a1 = a + 1 + (x.sort.length:Int) + (x.type.length:Int) + (x.body.length:Int) + jL' lim x.params 0 + jL' lim x.indices 0:=⟨_,rfl⟩
   rw [<- ha1'] at hres ⊢;have k06:=k04.tr k46;have h7:=h7.kp k46 (by simp);obtain ⟨RC,hRC⟩:∃ r,szC lim x.ctors a1 = r:=⟨_,rfl⟩
   rw [hRC] at hres;refine lp τok (σ:=Nat × Int) (fun q=>[(1,.int .i64 lim),(2,pt b2),(5,.int .i64 q.2),(6,.int .i64 (i:Int)),(7,pt b7),(8,.int .i64 (q.1:Int))])
    (fun q w'=>q.1 <= x.ctors.length /\ 0 <= q.2 /\ q.2 <= 100000000000000 /\ Kp [] w6 w' /\ szC lim (x.ctors.drop q.1) q.2 = RC) (fun q=>x.ctors.length - q.1) (0,a1) rfl
    ⟨rfl,rfl,rfl,rfl,rfl,rfl,trivial⟩ ⟨KV _,by simp only; omega,by simp only; omega,Kp.refl _ _,hRC⟩ ?_
   clear hRC
   rintro ⟨j,a2⟩ w7 ⟨hj,hj0,hj1,hk7,hRC⟩;simp only at hj hj0 hj1 hRC;have k07:=k06.tr hk7;have h77:=h7.kp hk7 (by simp);refine lb h77 ?_;have k17:Kp [] w1 w7:=(hk2.tr k24).tr (k46.tr hk7);have next:szC lim (x.ctors.drop j) a2 = a2 -> a2 = RC:=fun h=>by rw [<- hRC,h]
   refine ac' (fun y1=>?_) (fun y1=>?_)
   ·have y1:(j:Int) < (x.ctors.length:Int):=y1
    refine ac' (fun y2=>?_) (fun y2=>?_)
    ·have y2:a2 < lim:=y2
     obtain ⟨c,hc,hd⟩:=af' (l:=x.ctors) (k:=j) (by omega);rw [hd] at hRC;simp only [szC] at hRC;rw [if_pos y2] at hRC;obtain ⟨bc,oc,cc',pc,hca⟩:=hct.at hc;obtain ⟨va,vo,hccs,hva,hvo⟩:=jg' hca;injection pc with q1 q2 q3
     subst q1 q3;obtain ⟨aa,ca,rfl,_,_⟩:=id hva;obtain ⟨aoo,coo,rfl,_,_⟩:=id hvo;have hS7:=hS.tr k07;refine as' τok (fun z=>Kp [] w7 z) ?_;refine rV τok [0,1,2,3,4,5,6,7,8,11,12,13,14,15,16,17] 5 (mB 21 [9,10,18,19,20]) (kQd w7) ?_;refine i6 ?_;refine lk h77 ?_;refine ix j rfl (by omega) ?_;refine ldK (hS7 _ _ _ (hccs 0 _ rfl)) ?_;refine lk h77 ?_;refine ix j rfl (by omega) ?_;refine ldK (hS7 _ _ _ (hccs 1 _ rfl)) ?_;refine nV τok 9 4 (mB 21 [10,18,19,20]) ?_;refine ab' (gy' (w:=(dr w7)) (hS.tr (k07.dr _)) hva h0) ?_;rintro e w8 ⟨⟨rfl,s0,s1⟩,hk8⟩;have hk8:Kp [] w7 w8:=hk8.rd;refine ⟨.inl hk8,?_⟩;refine rV τok [10] 3 (mR 21 18) hk8 ?_;refine i6 ?_;refine nV τok 18 2 (mR 21 19) ?_;refine ab' (gy' (hS7.tr hk8) hvo h0) ?_;rintro e w9 ⟨⟨rfl,t0,t1⟩,hk9⟩;have k79:=hk8.tr hk9;refine ⟨.inl k79,?_⟩;refine rV τok [19,20] 0 (mR 21 21) k79 ?_;refine i6 ?_;refine dV ?_;refine i6 ?_;exact ⟨(j + 1,a2 + 1 + jL' lim c.args 0 + jL' lim c.out 0),by simp only; omega,rfl,⟨rfl,rfl,rfl,rfl,rfl,rfl,trivial⟩,by show j + 1 <= _; omega,by simp only; omega,by simp only; omega,hk7.tr k79,hRC⟩
    ·have y2:¬ a2 < lim:=y2
     have:=next (rX' y2 _);refine i6 ?_;exact ⟨(i + 1,a2),by simp only; omega,rfl,⟨rfl,rfl,rfl,rfl,trivial⟩,by show i + 1 <= _; omega,hj0,hj1,k17,by simp only; rw [this]; exact hres⟩
   ·have y1:¬ (j:Int) < (x.ctors.length:Int):=y1
    have:=next (by rw [JY (by omega)]; rfl);refine i6 ?_;exact ⟨(i + 1,a2),by simp only; omega,rfl,⟨rfl,rfl,rfl,rfl,trivial⟩,by show i + 1 <= _; omega,hj0,hj1,k17,by simp only; rw [this]; exact hres⟩
  ·have g2:¬ a < lim:=g2
   exact fin (rY' g2 _)
 ·have g:¬ (i:Int) < (B.ents.length:Int):=g
  exact fin (by rw [JY (by omega)]; rfl)
end
def szX (lim:Int):CxR -> Int -> Int
 | [],a=>a
 | q :: r,a=>if a < lim then szX lim r (a + 1 + (q.1.length:Int) + (q.2.length:Int)) else a
theorem rZ' {lim a:Int} (h:¬ a < lim):∀ (l:CxR),szX lim l a = a
 | []=>rfl
 | l :: r=>by simp only [szX]; rw [if_neg h]
section
variable {C:Mem} {w:World} {B:BoT}
theorem sa' (hS:Sub C w) {c:CxR} {vl:Value} (hl:SV rBd C c vl) {lim:Int} (h0:0 <= lim /\ lim <= 100000) :
  CC 11 #[vl,.int .i64 lim] w (fun e w'=>e = .returned (.int .i64 (szX lim c 0)) /\ Kp [] w w'):=by
 refine oF Tryz.func11 ?_;obtain ⟨RES,hRES⟩:∃ r,szX lim c 0 = r:=⟨_,rfl⟩
 rw [hRES];have hll:=hl;obtain ⟨al,cl,rfl,hl1,hl2⟩:=hl;have l1:=hl1.1;refine cO (args:=[_,_]) 35 [.tmp 4] τok Tryz.func11 ?_;refine lp τok (σ:=Nat × Int) (fun q=>[(0,.slice al c.length cl),(1,.int .i64 lim),(5,.int .i64 q.2),(6,.int .i64 (q.1:Int))])
  (fun q w'=>q.1 <= c.length /\ 0 <= q.2 /\ q.2 <= 4000000000000 /\ Kp [] w w' /\ szX lim (c.drop q.1) q.2 = RES) (fun q=>c.length - q.1) (0,0) rfl
  ⟨rfl,rfl,rfl,rfl,trivial⟩ ⟨KV _,Int.le_refl _,by decide,Kp.refl _ _,hRES⟩ ?_
 clear hRES
 rintro ⟨i,a⟩ w1 ⟨hi,ha0,ha1,hk1,hres⟩;simp only at hi ha0 ha1 hres;have fin:szX lim (c.drop i) a = a -> Ending.returned (Go.Wx.one [.int .i64 a]) = .returned (.int .i64 RES) /\ Kp [] w w1:=fun h=>by
  rw [h] at hres;subst hres;exact ⟨rfl,hk1⟩
 refine ac' (fun g=>?_) (fun g=>?_)
 ·have g:(i:Int) < (c.length:Int):=g
  refine ac' (fun g2=>?_) (fun g2=>?_)
  ·have g2:a < lim:=g2
   obtain ⟨q,hq,hd⟩:=af' (l:=c) (k:=i) (by omega);rw [hd] at hres;simp only [szX] at hres;rw [if_pos g2] at hres;obtain ⟨bc,oc,cc',pc,hat⟩:=hll.at hq;obtain ⟨vty,vva,hbc,hbt,hbv⟩:=oX' hat;injection pc with q1 q2 q3
   subst q1 q3;obtain ⟨aty,cty,rfl,ht1,_⟩:=id hbt;obtain ⟨ava,cva,rfl,hv1,_⟩:=id hbv;have lt1:=ht1.1;have lv1:=hv1.1;have hS1:=hS.tr hk1;refine as' τok (fun z=>Kp [] w1 z) ?_;refine rV τok (rg 0 17) 0 (mR 17 17) (kQd w1) ?_;refine i6 ?_;refine ix i rfl (by omega) ?_;refine ldK (hS1 _ _ _ (hbc 0 _ rfl)) ?_;refine i6 ?_;refine ix i rfl (by omega) ?_;refine ldK (hS1 _ _ _ (hbc 1 _ rfl)) ?_;refine i6 ?_;refine dV ?_;refine i6 ?_;exact ⟨(i + 1,a + 1 + (q.1.length:Int) + (q.2.length:Int)),by simp only; omega,rfl,⟨rfl,rfl,rfl,rfl,trivial⟩,by show i + 1 <= _; omega,by simp only; omega,by simp only; omega,hk1.dr _,hres⟩
  ·have g2:¬ a < lim:=g2
   exact fin (rZ' g2 _)
 ·have g:¬ (i:Int) < (c.length:Int):=g
  exact fin (by rw [JY (by omega)]; rfl)
end
structure CaT where
 book:BoT
 ctx:CxR
 term:List Nd
 type:List Nd
 fuel:Int
def CaV (C:Mem) (x:CaT) (v:Value):Prop :=
 ∃ v1 v2 v3 vc vt vy,v = .agg #[.int .i64 x.book.vars,v1,v2,.int .i64 x.book.nat,v3,vc,vt,vy,.int .i64 x.fuel] /\ SV rOr C x.book.orders v1 /\ SV rEn C x.book.ents v2 /\ SV rPr C x.book.prims v3 /\ SV rBd C x.ctx vc /\ SV rNd C x.term vt /\ SV rNd C x.type vy /\ I64 x.fuel
def nh' (x:CaT):Bool:=decide (2500 <= nJ' x.book 2500) || (decide (1500 <= szX 1500 x.ctx 0) || (decide (300 < x.ctx.length) || (decide (1500 < x.term.length + x.type.length) || decide (300 < x.fuel))))
section
variable {C:Mem} {w:World} {x:CaT}
theorem sb' (hS:Sub C w) {v:Value} (hv:CaV C x v) :
  CC 5 #[v] w (fun e w'=>e = .returned (.bool (nh' x)) /\ Kp [] w w'):=by
 refine oF Tryz.func5 ?_;obtain ⟨RES,hRES⟩:∃ r,nh' x = r:=⟨_,rfl⟩
 rw [hRES];unfold nh' at hRES;obtain ⟨v1,v2,v3,vc,vt,vy,rfl,hO,hE,hP,hC,hT,hY,hf⟩:=hv;obtain ⟨ac,cc,rfl,_,_⟩:=id hC;obtain ⟨at_,ct_,rfl,ht1,_⟩:=id hT;obtain ⟨ay,cy,rfl,hy1,_⟩:=id hY;have lt:=ht1.1;have ly:=hy1.1;have tt:∀ {w'},Kp [] w w' -> RES = true -> Ending.returned (Go.Wx.one [.bool true]) = .returned (.bool RES) /\ Kp [] w w':=fun k h=>by subst h; exact ⟨rfl,k⟩
 refine cO (args:=[_]) 34 [.tmp 2] τok Tryz.func5 ?_;refine new fun b1 w1 hb1 h1 hs1 hk1=>?_;have h1:Bk w1.heap b1 [.int .i64 x.book.vars,v1,v2,.int .i64 x.book.nat,v3,.slice ac x.ctx.length cc,.slice at_ x.term.length ct_,.slice ay x.type.length cy,.int .i64 x.fuel] 31:=h1;refine ldN [.int .i64 x.book.vars,v1,v2,.int .i64 x.book.nat,v3] rfl (fun j u hj=>by
  refine h1.cl ?_;rw [KW]
  match j,hj with
  | 0,hj=>exact hj
  | 1,hj=>exact hj
  | 2,hj=>exact hj
  | 3,hj=>exact hj
  | 4,hj=>exact hj
  | j + 5,hj=>cases hj) ?_
 refine ab' (uj' (B:=x.book) (hS.tr hk1) ⟨v1,v2,v3,rfl,hO,hE,hP⟩ (lim:=2500) (by omega)) ?_;rintro e w2 ⟨rfl,hk2⟩;have k02:=hk1.tr hk2;have h1:=h1.kp hk2 (by simp);refine ac' (fun g=>?_) (fun g=>?_)
 ·have g:2500 <= nJ' x.book 2500:=g
  rw [decide_eq_true g] at hRES;exact tt k02 (by rw [<- hRES]; rfl)
 have g:¬ 2500 <= nJ' x.book 2500:=g;rw [decide_eq_false g,Bool.false_or] at hRES;refine lb h1 ?_;refine ab' (sa' (hS.tr k02) hC (lim:=1500) (by omega)) ?_;rintro e w3 ⟨rfl,hk3⟩;have k03:=k02.tr hk3;have h1:=h1.kp hk3 (by simp);refine ac' (fun g2=>?_) (fun g2=>?_)
 ·have g2:1500 <= szX 1500 x.ctx 0:=g2
  rw [decide_eq_true g2] at hRES;exact tt k03 (by rw [<- hRES]; rfl)
 have g2:¬ 1500 <= szX 1500 x.ctx 0:=g2;rw [decide_eq_false g2,Bool.false_or] at hRES;refine lb h1 ?_;refine ac' (fun g3=>?_) (fun g3=>?_)
 ·have g3:(300:Int) < (x.ctx.length:Int):=g3
  rw [decide_eq_true (by omega)] at hRES;exact tt k03 (by rw [<- hRES]; rfl)
 have g3:¬ (300:Int) < (x.ctx.length:Int):=g3;rw [decide_eq_false (by omega),Bool.false_or] at hRES;refine lb h1 ?_;refine lb h1 ?_;refine i6 ?_;refine ac' (fun g4=>?_) (fun g4=>?_)
 ·have g4:(1500:Int) < (x.term.length:Int) + (x.type.length:Int):=g4
  rw [decide_eq_true (by omega)] at hRES;exact tt k03 (by rw [<- hRES]; rfl)
 have g4:¬ (1500:Int) < (x.term.length:Int) + (x.type.length:Int):=g4;rw [decide_eq_false (by omega),Bool.false_or] at hRES;refine lb h1 ?_;subst hRES;exact ⟨rfl,k03⟩
end
def B0:BoT:=⟨0,[],[],-1,[]⟩
def r1:List Nd:=[⟨2,1,1⟩,⟨3,0,0⟩]
def r2:List Nd:=[⟨6,0,0⟩,⟨2,0,1⟩,⟨3,0,0⟩,⟨2,1,1⟩,⟨3,0,0⟩]
def x1:Tr:=.mk ⟨2,1,1⟩ [.mk ⟨3,0,0⟩ []]
def x0:Tr:=.mk ⟨2,0,1⟩ [.mk ⟨3,0,0⟩ []]
def x2:Tr:=.mk ⟨6,0,0⟩ [x0,x1]
theorem vI':Ok .tm x1:=by
 refine ⟨⟨rfl,⟨rfl,trivial⟩,trivial⟩,rfl⟩
theorem vJ':Ok .tm x2:=by
 refine ⟨⟨rfl,⟨rfl,⟨rfl,trivial⟩,trivial⟩,⟨rfl,⟨rfl,trivial⟩,trivial⟩,trivial⟩,rfl⟩
theorem sK':row x1 = r1:=rfl
theorem sL':row x2 = r2:=rfl
theorem sM':be' B0 = 0:=by rfl
theorem ww':Ft (QB B0) 0 x1:=⟨vI',by decide,fun q hq=>by simp [x1,varsT,varsK] at hq,fun m hm=>by
 rw [sK'] at hm;simp only [r1,JJ,JZ,or_false] at hm;rcases hm with rfl | rfl <;> rfl⟩
theorem wx':Ft (QB B0) 0 x2:=⟨vJ',by decide,fun q hq=>by simp [x2,x0,x1,varsT,varsK] at hq,fun m hm=>by
 rw [sL'] at hm;simp only [r2,JJ,JZ,or_false] at hm;rcases hm with rfl | rfl | rfl | rfl | rfl <;> rfl⟩
theorem wy':cm' B0 [] r1 = 0:=by
 have:=jC' sM' (c:=[]) (fun i q hq=>by simp at hq) (by simp) (x:=x1) (by simpa using ww')
 rwa [sK'] at this
theorem wz':cm' B0 [] r2 = 0:=by
 have:=jC' sM' (c:=[]) (fun i q hq=>by simp at hq) (by simp) (x:=x2) (by simpa using wx')
 rwa [sL'] at this
theorem nK' {B:BoT} {cx:Ctx} {x:Tr} {f:Int} (hp:df' x = none) (hr:bT' B cx x = false):aM' B cx x f = .ok (x,br' f):=by
 have hg:=vf';obtain ⟨g,hgw⟩:∃ g,GW = g + 1:=⟨GW - 1,by omega⟩
 unfold aM';rw [hgw];simp only [bb',kY',hp,gg'];rw [if_neg (by rw [hr]; simp)]
theorem wA':eG' B0 [] r1 3 = .ok (.mk ⟨2,1,1⟩ [.mk ⟨3,0,1⟩ []],3):=by
 unfold eG';rw [if_neg (by rw [wy']; simp)];have ht:tr r1 = x1:=cJ' vI';rw [ht];have hg:=tP';obtain ⟨g,hgj⟩:∃ g,GJ = g + 1:=⟨GJ - 1,by omega⟩
 unfold fI';rw [hgj];simp only [bO'];unfold cZ';rw [if_neg (by decide),if_pos (by decide)]
 rfl
theorem wB':eG' B0 [] r2 3 = .error 12:=by
 unfold eG';rw [if_neg (by rw [wz']; simp)];have ht:tr r2 = x2:=cJ' vJ';rw [ht];have hg:=tP';obtain ⟨g,hgj⟩:∃ g,GJ = g + 1 + 1:=⟨GJ - 2,by omega⟩
 unfold fI';rw [hgj];simp only [bO'];unfold cZ';rw [if_neg (by decide),if_neg (by decide),if_neg (by decide),if_neg (by decide),if_neg (by decide),if_neg (by decide),if_neg (by decide),if_pos (by decide)];unfold tK';have h1:bO' B0 (g + 1) (cxR []) (kidD x2 0) (br' 3) = .ok (.mk ⟨2,1,1⟩ [.mk ⟨3,0,1⟩ []],3):=by
  simp only [bO'];unfold cZ';rw [if_neg (by decide),if_pos (by decide)]
  rfl
 have h2:dM' B0 (cxR []) (.mk ⟨2,1,1⟩ [.mk ⟨3,0,1⟩ []]) 3 = .ok (.mk ⟨2,1,1⟩ [.mk ⟨3,0,1⟩ []],3):=by
  unfold dM';rw [if_neg (by decide),nK' (by rfl) (by rfl)]
  rfl
 show bdJ (bO' B0 (g + 1) (cxR []) (kidD x2 0) (br' 3)) _ = _;rw [h1,bS',h2,bS']
 rfl
theorem qm' {w:World} {b T:Nat} {l:List Nd} (hb:Bk w.heap b (l.flatMap fun m=>[.int .i64 m.op,.int .i64 m.a,.int .i64 m.b]) T) (hi:∀ m ∈ l,I64 m.op /\ I64 m.a /\ I64 m.b) (hl:l.length <= 1000):SV rNd (Im [] w) l (.slice (some ⟨b,0,none⟩) l.length l.length):=by
 refine ⟨_,_,rfl,⟨by omega,.inr ⟨b,0,rfl,fun i m hm=>⟨_,⟨rfl,hi m (JQ hm)⟩,fun j u hj=>⟨?_,by simp⟩⟩⟩⟩,KJ _⟩;rw [KW];refine hb.cl ?_;have hlen:∀ (l:List Nd),(l.flatMap fun m=>[Value.int .i64 m.op,.int .i64 m.a,.int .i64 m.b]).length = l.length * 3:=by
  intro l
  induction l with
  | nil=>rfl
  | cons a l ih=>simp only [List.flatMap_cons,JK,ih,JV,JU]; omega
 have:∀ (l:List Nd) (i:Nat),l[i]? = some m -> ∀ (j:Nat) u,[Value.int .i64 m.op,.int .i64 m.a,.int .i64 m.b][j]? = some u -> (l.flatMap fun m=>[Value.int .i64 m.op,.int .i64 m.a,.int .i64 m.b])[i * 3 + j]? = some u:=by
  intro l
  induction l with
  | nil=>intro i h; simp at h
  | cons a l ih =>
   intro i h j u hj;have hj3:=ai' hj;cases i with
   | zero =>
    simp only [List.getElem?_cons_zero,Option.some.injEq] at h;subst h;rw [Nat.zero_mul,KW,List.flatMap_cons,List.getElem?_append_left (by simpa using hj3)];exact hj
   | succ i =>
    simp only [List.getElem?_cons_succ] at h;have:=ih i h j u hj;rw [List.flatMap_cons,List.getElem?_append_right (by simp; omega)];rw [show (i + 1) * 3 + j - [Value.int .i64 a.op,.int .i64 a.a,.int .i64 a.b].length = i * 3 + j by simp; omega];exact this
 exact this l i hm j u hj
theorem b0_v {C:Mem}:BoV C B0 (.agg #[.int .i64 0,.slice none 0 0,.slice none 0 0,.int .i64 (-1),.slice none 0 0]):=⟨_,_,_,rfl,SV.nil _ _,SV.nil _ _,SV.nil _ _⟩
theorem sc' (w:World) :
  CC 4 #[] w (fun e w'=>e = .returned (.bool true) /\ Kp [] w w'):=by
 refine oF Tryz.func4 ?_;refine cO (args:=[]) 45 [.tmp 0] τok Tryz.func4 ?_;refine fill [.int .i64 2,.int .i64 1,.int .i64 1,.int .i64 3,.int .i64 0,.int .i64 0] rfl ?_;refine new fun b1 w1 hb1 h1 hs1 hk1=>?_;have hr1:SV rNd (Im [] w1) r1 (.slice (some ⟨b1,0,none⟩) 2 2):=qm' h1 (by simp [r1,I64]) (by decide);refine ab' (fq' (X:=[]) (B:=B0) (c:=[]) (t:=r1) (fuel:=3) (by simp) b0_v (SV.nil _ _) hr1) ?_;rintro e w2 ⟨he,hk2⟩;rw [wA'] at he;obtain ⟨u,rfl,hu⟩:=he;obtain ⟨au,cu,rfl,hu1,hu2⟩:=hu;have k02:=hk1.tr hk2;refine fill [.int .i64 6,.int .i64 0,.int .i64 0,.int .i64 2,.int .i64 0,.int .i64 1,.int .i64 3,.int .i64 0,.int .i64 0,.int .i64 2,.int .i64 1,.int .i64 1,.int .i64 3,.int .i64 0,.int .i64 0] rfl ?_;refine new fun b3 w3 hb3 h3 hs3 hk3=>?_;have hr2:SV rNd (Im [] w3) r2 (.slice (some ⟨b3,0,none⟩) 5 5):=qm' h3 (by simp [r2,I64]) (by decide);refine ab' (fq' (X:=[]) (B:=B0) (c:=[]) (t:=r2) (fuel:=3) (by simp) b0_v (SV.nil _ _) hr2) ?_;rintro e w4 ⟨he,hk4⟩;rw [wB'] at he;obtain rfl:=he;have k24:=hk3.tr hk4;refine fill [.int .i64 2,.int .i64 1,.int .i64 1,.int .i64 3,.int .i64 0,.int .i64 1] rfl ?_;refine new fun b5 w5 hb5 h5 hs5 hk5=>?_;have k25:=k24.tr hk5;have hr3:SV rNd (Im [] w5) [⟨2,1,1⟩,⟨3,0,1⟩] (.slice (some ⟨b5,0,none⟩) 2 2):=qm' h5 (by simp [I64]) (by decide);obtain ⟨a3,c3,e3,hr3a,hr3b⟩:=hr3;injection e3 with q1 q2 q3
 subst q1;have hsm:=kv' (w:=w5) (C:=Im [] w5) (D:=Im [] w5) (Im.sub _ _) (Im.sub _ _) (row (.mk ⟨2,1,1⟩ [.mk ⟨3,0,1⟩ []])) [⟨2,1,1⟩,⟨3,0,1⟩] au _ cu c3 (hu1.mono fun _ _ _ h=>h.tr k25) hr3a;rw [<- q3] at hsm;refine ab' hsm ?_;rintro e w6 ⟨rfl,hk6⟩;exact ⟨rfl,k02.tr (k25.tr hk6)⟩
def Fue {α:Type} (F:Nat -> Except Int (α × Nat)):Prop:=∀ n a n',n <= 100000 -> F n = .ok (a,n') -> n' <= n /\ ∀ m,m <= 100000 -> (n - n' <= m -> F m = .ok (a,m - (n - n'))) /\ (m < n - n' -> F m = .error 10)
section
variable {B:BoT}
abbrev RcFu (rc:RcC):Prop:=∀ cx x y u,Fue (rc cx x y u)
abbrev RjFu (rc:RcJ):Prop:=∀ cx t,Fue (rc cx t)
variable {rc:RcJ} (hr:RjFu rc)
include hr
end
theorem jI' {B:BoT} {c:CxR} {t:List Nd} {f:Int} {er:Int} (h:eG' B c t f = .error er):er ≠ 0:=by
 unfold eG' at h;split at h
 ·rename_i g
  injection h with h
  rw [<- h];exact g
 ·rename_i g
  obtain ⟨hB,_⟩:=gt' (Decidable.not_not.1 g);exact (fm' hB GJ).er _ _ _ _ h
theorem bk5 {w:World} {b T:Nat} {x:CaT} {v1 v2 v3 vc vt vy:Value} (h:Bk w.heap b [.int .i64 x.book.vars,v1,v2,.int .i64 x.book.nat,v3,vc,vt,vy,.int .i64 x.fuel] T):∀ j u,[Value.int .i64 x.book.vars,v1,v2,.int .i64 x.book.nat,v3][j]? = some u -> Cl w.heap b (0 + j) u:=fun j u hj=>by
 refine h.cl ?_;rw [KW]
 match j,hj with
 | 0,hj=>exact hj
 | 1,hj=>exact hj
 | 2,hj=>exact hj
 | 3,hj=>exact hj
 | 4,hj=>exact hj
 | j + 5,hj=>cases hj
section
variable {w:World} {x:CaT}
end
end Go.Proofs.YtpealcfjbcpoiaaGreat
namespace Go.Wx
open Go.ChangeShapes Go.WideShapes Go.ChangeAt Go.RowKit
theorem kX' {H:Type} {enc:TypeId × Value -> H} {P:Program} (hl:laidOutB P = true) {W W':World} (hb:Below W.heap.size W W') :
  ∀ (ts:List TypeId) (vs:List Value) (ds:List (DataW H)) (ps:List MemPlace),(ts.all fun t=>P.readableRec t && Nat.blt t P.types.size) = true -> DataW.TrodAll enc P W 0 (fun _=>true) true ts vs ds ps ->
   (∀ x ∈ ps,x.block < W.heap.size) -> ∀ sp:Nat -> Bool,(∀ p ∈ ps,sp p.block = true) -> DataW.TrodAll enc P W' 0 sp true ts vs ds ps
 | [],vs,ds,ps,_,h,_,sp,_=>by
  obtain ⟨rfl,rfl,rfl⟩:=trodAll_nil h
  rfl
 | t :: ts,vs,ds,ps,hts,h,hlt,sp,hsp=>by
  obtain ⟨v,vs',d,ds',p,q,rfl,rfl,rfl,h0,h1⟩:=trodAll_cons h;simp only [List.all_cons,Bool.and_eq_true] at hts;refine ⟨p,q,?_,kX' hl hb ts _ _ _ hts.2 h1 (fun x hx=>hlt x (by simp [hx])) sp (fun x hx=>hsp x (by simp [hx])),rfl⟩;exact WideElems.Trod_stays hl hts.1.1 (by simpa [Nat.blt_eq] using hts.1.2) h0 (fun x hx=>hb.same (hlt x (by simp [hx]))) (fun x hx=>hsp x (by simp [hx]))
theorem qn' {H:Type} {enc:TypeId × Value -> H} {P:Program} {f:Func} {s:ChangeSpec} {apart fresh handsOn:Bool} {W W':World} {args:Array Value} {ds gs:List (DataW H)} {before:List MemPlace} {tb:TypeId}
  (hl:laidOutB P = true) (hts:(f.params.toList.all fun t=>P.readableRec t && Nat.blt t P.types.size) = true) (hrt:f.resultTypes = #[tb]) (hb:P.underlying tb = some .bool)
  (hW:DataW.Whole enc P f.params.toList s.vars apart W args.toList ds gs before) (hs:s.vars = []) (hres:(s.fn H ds).results = [.lit (.bool true)]) (hargs:(s.fn H ds).args = ds) (hvars:(s.fn H ds).vars = [])
  (hk:Kp [] W W'):s.post enc P f apart fresh handsOn false W args (.bool true) W':=by
 have hW':=hW;obtain ⟨p,q,hA,hV,rfl,hfz,hnd⟩:=hW;rw [hs] at hV;obtain ⟨rfl,rfl⟩:=trodVars_none hV;have hbl:=hk.below;have hlt:∀ x ∈ p,x.block < W.heap.size:=fun x hx=>hW'.lt x (by simp [hx]);refine ⟨ds,[],p ++ [],[],p,[],hW',?_,?_,?_,?_,fun h=>by cases h⟩
 ·rw [JD,hres,hrt]
  exact trodAll_mk1 (shut_bool hb true)
 ·rw [JD,hargs]
  exact kX' hl hbl _ _ _ _ hts hA hlt _ fun x hx=>by simpa using hlt x hx
 ·rw [JD,hvars,hs]
  rfl
 ·exact hbl.frame _
end Go.Wx
namespace Go.Proofs.YtpealcfjbcpoiaaGreat
open Go.Wx Go.ChangeShapes Go.WideShapes Go.ChangeAt Go.RowKit
theorem sd' {H:Type} (d:DataW H):1 <= Rows.uptoBulk d:=by
 cases d with
 | lit l=>cases l <;> simp [Rows.uptoBulk]
 | nil=>simp [Rows.uptoBulk]
 | ptr d=>simp [Rows.uptoBulk]
 | slice elems spare=>simp [Rows.uptoBulk]
 | agg parts=>simp [Rows.uptoBulk]
 | iface t d=>simp [Rows.uptoBulk]
 | map entries=>simp [Rows.uptoBulk]
 | held h=>simp [Rows.uptoBulk]
theorem hU' {H:Type} {d:DataW H} {l:List (DataW H)} (h:d ∈ l):Rows.uptoBulk d <= Rows.uptoBulkAll l:=by
 induction l with
 | nil=>cases h
 | cons x r ih =>
  simp only [Rows.uptoBulkAll];cases List.mem_cons.1 h with
  | inl e=>subst e; omega
  | inr e=>have:=ih e; omega
theorem se' {H:Type} (l:List (DataW H)):l.length <= Rows.uptoBulkAll l:=by
 induction l with
 | nil=>simp [Rows.uptoBulkAll]
 | cons x r ih=>have:=sd' x; simp only [Rows.uptoBulkAll,JV]; omega
theorem uk' {H:Type} {l:List (DataW H)} (hk:Rows.uptoSmall H l = true):Rows.uptoBulkAll l <= 1048576:=of_decide_eq_true hk
theorem sf' {H:Type} (l r:List (DataW H)):Rows.uptoBulkAll (l ++ r) = Rows.uptoBulkAll l + Rows.uptoBulkAll r:=by
 induction l with
 | nil=>simp [Rows.uptoBulkAll]
 | cons x l ih=>simp only [List.cons_append,Rows.uptoBulkAll,ih]; omega
theorem aP' {H:Type} {xs:List (DataW H × List MemPlace)} {x:DataW H × List MemPlace} (hx:x ∈ xs) (hB:Rows.uptoBulk (.agg (xs.map (·.1))) <= 1048576):Rows.uptoBulk x.1 <= 1048576:=by
 have:=hU' (List.mem_map_of_mem (f:=(·.1)) hx);simp only [Rows.uptoBulk] at hB;omega
section
variable {H:Type} {enc:TypeId × Value -> H} {w:World} {spare:Nat -> Bool} {held:Bool}
theorem lY' {a:Addr} {v:Value} (h:w.cell? a = some v):∃ b o,a = ⟨b,o,none⟩:=by
 obtain ⟨b,o,s⟩:=a;unfold World.cell? at h;split at h
 ·rename_i c T fz hb
  cases s with
  | none=>exact ⟨b,o,rfl⟩
  | some _=>simp at h
 ·cases h
theorem sg' {α:Type} [Inhabited α] {t e:TypeId} (R:Rd α) (hk:0 < R.sz) (ht:Tryz.prog.underlying t = some (.slice e)) (hc:Tryz.prog.cellsOf e = R.sz) (ok:DataW H -> Prop)
  (one:∀ (cs:List Value) (n:Nat) (y:DataW H × List MemPlace),cs.length = R.sz -> DataW.trod enc Tryz.prog w 0 spare held n e cs = some y -> ok y.1 -> ∃ x:α,R.den (Old w) cs x)
  {fuel:Nat} {v:Value} {x:DataW H × List MemPlace} (h:DataW.trod enc Tryz.prog w 0 spare held fuel t [v] = some x) (hok:∀ es sp,x.1 = .slice es sp -> ∀ d ∈ es,ok d) :
  ∃ (a:Option Addr) (l:List α) (cap:Nat),v = .slice a l.length cap /\ (l.length <= 1099511627776 -> Sl R (Old w) a l) /\ (l.length = 0 \/ ∃ es sp,x.1 = .slice es sp /\ es.length = l.length):=by
 rcases Go.Deep.open_slice ht h with ⟨h1,rfl⟩ | ⟨a,len,cap,m,n,D,Pl,h1,hb,hl,hm,hmm,rfl,hx⟩
 ·simp only [List.cons.injEq,and_true] at h1
  subst h1;exact ⟨none,[],0,rfl,fun _=>Sl.nil _ _ _,.inl rfl⟩
 simp only [List.cons.injEq,and_true] at h1;subst h1;have hlm:len <= m:=by rw [hmm]; split <;> omega
 rw [hc] at hx;have each:∀ i,i < len -> ∃ q:α × List Value,R.den (Old w) q.2 q.1 /\ ∀ j u,q.2[j]? = some u -> w.cell? (a.add (i * R.sz + j)) = some u:=by
  intro i hi;obtain ⟨cs',h1,h2⟩:=hx i (by omega);obtain ⟨_,hlen,hcell⟩:=World.cells?_some h1;obtain ⟨x,hx⟩:=one cs' n _ hlen h2 (hok _ _ rfl _ (List.mem_map.2 ⟨i,by simpa using hi,rfl⟩));refine ⟨(x,cs'),hx,fun j u hu=>?_⟩;have hj:j < R.sz:=by rw [<- hlen]; exact ai' hu
  rw [<- Go.Deep.add_add,hcell j hj];exact hu
 obtain ⟨q,hq⟩:=Go.Deep.choose_lt each;refine ⟨some a,(List.range len).map fun i=>(q i).1,cap,by simp,fun hbig=>⟨hbig,?_⟩,.inr ⟨_,_,rfl,by simp⟩⟩
 by_cases h0:len = 0
 ·exact .inl (by simp [h0])
 obtain ⟨hd0,hz⟩:=hq 0 (by omega);have hl0:=R.len hd0;obtain ⟨u0,hu0⟩:∃ u,(q 0).2[0]? = some u:=⟨(q 0).2[0]'(by omega),by simp⟩
 have hz0:=hz 0 u0 hu0;rw [Nat.zero_mul,Nat.add_zero] at hz0;have hz':w.cell? a = some u0:=by simpa [Addr.add] using hz0
 obtain ⟨b,o,rfl⟩:=lY' hz';refine .inr ⟨b,o,rfl,fun i x hi=>?_⟩;rw [JX] at hi;have hil:i < len:=by
  rcases Nat.lt_or_ge i len with h | h
  ·exact h
  ·rw [List.getElem?_eq_none (by simpa using h)] at hi; cases hi
 rw [List.getElem?_range hil] at hi;have hi:=JB hi;subst hi;obtain ⟨hdi,hci⟩:=hq i hil;refine ⟨(q i).2,hdi,fun j u hj=>Cl.of ?_⟩;have:=hci j u hj;rw [dO'] at this;rw [Nat.add_assoc];exact this
theorem ul' {α:Type} [Inhabited α] {t e:TypeId} (R:Rd α) (hk:0 < R.sz) (ht:Tryz.prog.underlying t = some (.slice e)) (hc:Tryz.prog.cellsOf e = R.sz)
  (one:∀ (cs:List Value) (n:Nat) (y:DataW H × List MemPlace),cs.length = R.sz -> DataW.trod enc Tryz.prog w 0 spare held n e cs = some y -> Rows.uptoBulk y.1 <= 1048576 -> ∃ x:α,R.den (Old w) cs x)
  {fuel:Nat} {v:Value} {x:DataW H × List MemPlace} (h:DataW.trod enc Tryz.prog w 0 spare held fuel t [v] = some x) (hB:Rows.uptoBulk x.1 <= 1048576):∃ l,(rSl R).den (Old w) [v] l:=by
 obtain ⟨a,l,cap,h1,h2,h3⟩:=sg' R hk ht hc (fun d=>Rows.uptoBulk d <= 1048576) one h (fun es sp e d hd=>by
  rw [e] at hB;have:=hU' hd;simp only [Rows.uptoBulk] at hB;omega)
 refine ⟨l,a,cap,by rw [h1],h2 ?_⟩;rcases h3 with h3 | ⟨es,sp,e,hl⟩
 ·omega
 ·rw [e] at hB
  have:=se' es;simp only [Rows.uptoBulk] at hB;omega
end
end Go.Proofs.YtpealcfjbcpoiaaGreat
namespace Go.Proofs.YtpealcfjbcpoiaaGreat
open Go.Wx Cd Tm Lv Go.ChangeShapes Go.WideShapes Go.ChangeAt Go.RowKit
instance:Inhabited Nd:=⟨⟨0,0,0⟩⟩
instance:Inhabited aU':=⟨⟨0,0,0⟩⟩
instance:Inhabited BoT:=⟨⟨0,[],[],-1,[]⟩⟩
section
variable {H:Type} {enc:TypeId × Value -> H} {w:World} {spare:Nat -> Bool} {held:Bool}
theorem um' {z:Int} (h:(Lit.int .i64 z).wf = true):I64 z:=by
 simpa [I64,Lit.wf,IntKind.min,IntKind.max,IntKind.signed,IntKind.bits] using h
theorem eH' {α:Type} [Inhabited α] {t e:TypeId} (R:Rd α) (hk:0 < R.sz) (ht:Tryz.prog.underlying t = some (.slice e)) (hc:Tryz.prog.cellsOf e = R.sz)
  (one:∀ (cs:List Value) (n:Nat) (y:DataW H × List MemPlace),cs.length = R.sz -> DataW.trod enc Tryz.prog w 0 spare held n e cs = some y -> Rows.uptoBulk y.1 <= 1048576 -> ∃ x:α,R.den (Old w) cs x)
  {fuel:Nat} {v:Value} {x:DataW H × List MemPlace} (h:DataW.trod enc Tryz.prog w 0 spare held fuel t [v] = some x) (hB:Rows.uptoBulk x.1 <= 1048576):∃ l,SV R (Old w) l v:=by
 obtain ⟨l,a,c,e,hs⟩:=ul' R hk ht hc one h hB;have e:v = .slice a l.length c:=by simpa using e
 refine ⟨l,a,c,e,hs,?_⟩;rcases Go.Deep.open_slice ht h with ⟨h1,rfl⟩ | ⟨a',len,cap,m,k,D,Pl,h1,hb,hl,_⟩
 ·rw [e] at h1
  have h1:=(List.cons.inj h1).1;injection h1 with q1 q2 q3
  omega
 ·rw [e] at h1
  have h1:=(List.cons.inj h1).1;injection h1 with q1 q2 q3
  omega
theorem cu' {n:Nat} {cs:List Value} {y:DataW H × List MemPlace} (hn:DataW.trod enc Tryz.prog w 0 spare held n 3 cs = some y):∃ z,cs = [.int .i64 z] /\ I64 z:=by
 obtain ⟨z,rfl,rfl,hw⟩:=DataW.trod_int Tryz.underlying3 hn;exact ⟨z,rfl,um' hw⟩
theorem un' {n:Nat} {cs:List Value} {y:DataW H × List MemPlace} (hl:cs.length = 3) (hn:DataW.trod enc Tryz.prog w 0 spare held n 45 cs = some y):∃ x,rNd.den (Old w) cs x:=by
 obtain ⟨xs,m,rfl,rfl,_,hxl,hf⟩:=DataW.trod_struct Tryz.underlying45 hn
 match cs,hl,xs,hxl with
 | [c0,c1,c2],_,[x0,x1,x2],_ =>
  have g0:=hf 0 _ rfl;have g1:=hf 1 _ rfl;have g2:=hf 2 _ rfl;simp [show Tryz.prog.cellsOf 3 = 1 by kernel_rfl] at g0 g1 g2;obtain ⟨z0,e0,w0⟩:=cu' g0;obtain ⟨z1,e1,w1⟩:=cu' g1;obtain ⟨z2,e2,w2⟩:=cu' g2;simp at e0 e1 e2;subst e0 e1 e2;exact ⟨⟨z0,z1,z2⟩,rfl,w0,w1,w2⟩
theorem uo' {n:Nat} {cs:List Value} {y:DataW H × List MemPlace} (hl:cs.length = 3) (hn:DataW.trod enc Tryz.prog w 0 spare held n 125 cs = some y):∃ x,rOr.den (Old w) cs x:=by
 obtain ⟨xs,m,rfl,rfl,_,hxl,hf⟩:=DataW.trod_struct Tryz.underlying125 hn
 match cs,hl,xs,hxl with
 | [c0,c1,c2],_,[x0,x1,x2],_ =>
  have g0:=hf 0 _ rfl;have g1:=hf 1 _ rfl;have g2:=hf 2 _ rfl;simp [show Tryz.prog.cellsOf 3 = 1 by kernel_rfl] at g0 g1 g2;obtain ⟨z0,e0,w0⟩:=cu' g0;obtain ⟨z1,e1,w1⟩:=cu' g1;obtain ⟨z2,e2,w2⟩:=cu' g2;simp at e0 e1 e2;subst e0 e1 e2;exact ⟨⟨z0,z1,z2⟩,rfl,w0,w1,w2⟩
theorem up' {n:Nat} {cs:List Value} {y:DataW H × List MemPlace} (hl:cs.length = 2) (hn:DataW.trod enc Tryz.prog w 0 spare held n 86 cs = some y):∃ x,rPr.den (Old w) cs x:=by
 obtain ⟨xs,m,rfl,rfl,_,hxl,hf⟩:=DataW.trod_struct Tryz.underlying86 hn
 match cs,hl,xs,hxl with
 | [c0,c1],_,[x0,x1],_ =>
  have g0:=hf 0 _ rfl;have g1:=hf 1 _ rfl;simp [show Tryz.prog.cellsOf 3 = 1 by kernel_rfl] at g0 g1;obtain ⟨z0,e0,w0⟩:=cu' g0;obtain ⟨z1,e1,w1⟩:=cu' g1;simp at e0 e1;subst e0 e1;exact ⟨(z0,z1),rfl,w0,w1⟩
theorem bQ' {n:Nat} {v:Value} {y:DataW H × List MemPlace} (hn:DataW.trod enc Tryz.prog w 0 spare held n 29 [v] = some y) (hB:Rows.uptoBulk y.1 <= 1048576):∃ l,SV rNd (Old w) l v :=
 eH' rNd (by decide) Tryz.underlying29 (by kernel_rfl) (fun cs n y hl hn hb=>un' hl hn) hn hB
theorem en' {n:Nat} {v:Value} {y:DataW H × List MemPlace} (hn:DataW.trod enc Tryz.prog w 0 spare held n 52 [v] = some y) (hB:Rows.uptoBulk y.1 <= 1048576):∃ l,SV (rSk rNd) (Old w) l v :=
 eH' (rSk rNd) Nat.one_pos Tryz.underlying52 (by kernel_rfl) (fun cs n y hl hn hb=>by
  match cs,hl with
  | [c],_ =>
   obtain ⟨l,a,cc,rfl,hs,hcap⟩:=bQ' hn hb;exact ⟨l,a,cc,rfl,hcap,hs⟩) hn hB
theorem uq' {n:Nat} {cs:List Value} {y:DataW H × List MemPlace} (hl:cs.length = 2) (hn:DataW.trod enc Tryz.prog w 0 spare held n 58 cs = some y) (hB:Rows.uptoBulk y.1 <= 1048576):∃ x,rCt.den (Old w) cs x:=by
 obtain ⟨xs,m,rfl,rfl,_,hxl,hf⟩:=DataW.trod_struct Tryz.underlying58 hn
 match cs,hl,xs,hxl with
 | [c0,c1],_,[x0,x1],_ =>
  have g0:=hf 0 _ rfl;have g1:=hf 1 _ rfl;simp [show Tryz.prog.cellsOf 52 = 1 by kernel_rfl] at g0 g1;obtain ⟨l0,h0⟩:=en' g0 (aP' (x:=x0) (by simp) hB);obtain ⟨l1,h1⟩:=en' g1 (aP' (x:=x1) (by simp) hB);exact ⟨⟨l0,l1⟩,_,_,rfl,h0,h1⟩
theorem ur' {n:Nat} {cs:List Value} {y:DataW H × List MemPlace} (hl:cs.length = 7) (hn:DataW.trod enc Tryz.prog w 0 spare held n 55 cs = some y) (hB:Rows.uptoBulk y.1 <= 1048576):∃ x,rEn.den (Old w) cs x:=by
 obtain ⟨xs,m,rfl,rfl,_,hxl,hf⟩:=DataW.trod_struct Tryz.underlying55 hn
 match cs,hl,xs,hxl with
 | [c0,c1,c2,c3,c4,c5,c6],_,[x0,x1,x2,x3,x4,x5,x6],_ =>
  have g0:=hf 0 _ rfl;have g1:=hf 1 _ rfl;have g2:=hf 2 _ rfl;have g3:=hf 3 _ rfl;have g4:=hf 4 _ rfl;have g5:=hf 5 _ rfl;have g6:=hf 6 _ rfl;simp [show Tryz.prog.cellsOf 3 = 1 by kernel_rfl,show Tryz.prog.cellsOf 52 = 1 by kernel_rfl,show Tryz.prog.cellsOf 29 = 1 by kernel_rfl,show Tryz.prog.cellsOf 53 = 1 by kernel_rfl] at g0 g1 g2 g3 g4 g5 g6;obtain ⟨z0,e0,w0⟩:=cu' g0;obtain ⟨l1,h1⟩:=bQ' g1 (aP' (x:=x1) (by simp) hB);obtain ⟨l2,h2⟩:=en' g2 (aP' (x:=x2) (by simp) hB);obtain ⟨l3,h3⟩:=en' g3 (aP' (x:=x3) (by simp) hB);obtain ⟨l4,h4⟩:=eH' rCt (by decide) Tryz.underlying53 (by kernel_rfl) (fun cs n y hl hn hb=>uq' hl hn hb) g4 (aP' (x:=x4) (by simp) hB);obtain ⟨l5,h5⟩:=bQ' g5 (aP' (x:=x5) (by simp) hB);obtain ⟨l6,h6⟩:=bQ' g6 (aP' (x:=x6) (by simp) hB);simp at e0;subst e0;exact ⟨⟨z0,l1,l2,l3,l4,l5,l6⟩,_,_,_,_,_,_,rfl,w0,h1,h2,h3,h4,h5,h6⟩
theorem us' {n:Nat} {cs:List Value} {y:DataW H × List MemPlace} (hl:cs.length = 5) (hn:DataW.trod enc Tryz.prog w 0 spare held n 26 cs = some y) (hB:Rows.uptoBulk y.1 <= 1048576):∃ x,rBo.den (Old w) cs x:=by
 obtain ⟨xs,m,rfl,rfl,_,hxl,hf⟩:=DataW.trod_struct Tryz.underlying26 hn
 match cs,hl,xs,hxl with
 | [c0,c1,c2,c3,c4],_,[x0,x1,x2,x3,x4],_ =>
  have g0:=hf 0 _ rfl;have g1:=hf 1 _ rfl;have g2:=hf 2 _ rfl;have g3:=hf 3 _ rfl;have g4:=hf 4 _ rfl;simp [show Tryz.prog.cellsOf 3 = 1 by kernel_rfl,show Tryz.prog.cellsOf 22 = 1 by kernel_rfl,show Tryz.prog.cellsOf 23 = 1 by kernel_rfl,show Tryz.prog.cellsOf 24 = 1 by kernel_rfl] at g0 g1 g2 g3 g4;obtain ⟨z0,e0,w0⟩:=cu' g0;obtain ⟨l1,h1⟩:=eH' rOr (by decide) Tryz.underlying22 (by kernel_rfl) (fun cs n y hl hn hb=>uo' hl hn) g1 (aP' (x:=x1) (by simp) hB);obtain ⟨l2,h2⟩:=eH' rEn (by decide) Tryz.underlying23 (by kernel_rfl) (fun cs n y hl hn hb=>ur' hl hn hb) g2 (aP' (x:=x2) (by simp) hB);obtain ⟨z3,e3,w3⟩:=cu' g3;obtain ⟨l4,h4⟩:=eH' rPr (by decide) Tryz.underlying24 (by kernel_rfl) (fun cs n y hl hn hb=>up' hl hn) g4 (aP' (x:=x4) (by simp) hB);simp at e0 e3;subst e0 e3;exact ⟨⟨z0,l1,l2,z3,l4⟩,_,_,_,rfl,w0,w3,h1,h2,h4⟩
end
section
variable {H:Type} {enc:TypeId × Value -> H} {w:World} {spare:Nat -> Bool} {held:Bool}
theorem ut' {n:Nat} {cs:List Value} {y:DataW H × List MemPlace} (hl:cs.length = 2) (hn:DataW.trod enc Tryz.prog w 0 spare held n 35 cs = some y) (hB:Rows.uptoBulk y.1 <= 1048576):∃ x,rBd.den (Old w) cs x:=by
 obtain ⟨xs,m,rfl,rfl,_,hxl,hf⟩:=DataW.trod_struct Tryz.underlying35 hn
 match cs,hl,xs,hxl with
 | [c0,c1],_,[x0,x1],_ =>
  have g0:=hf 0 _ rfl;have g1:=hf 1 _ rfl;simp [show Tryz.prog.cellsOf 29 = 1 by kernel_rfl] at g0 g1;obtain ⟨l0,h0⟩:=bQ' g0 (aP' (x:=x0) (by simp) hB);obtain ⟨l1,h1⟩:=bQ' g1 (aP' (x:=x1) (by simp) hB);exact ⟨(l0,l1),_,_,rfl,h0,h1⟩
theorem CaV.mono {C D:Mem} {x:CaT} {v:Value} (h:CaV C x v) (hc:∀ b o v,C b o v -> D b o v):CaV D x v:=by
 obtain ⟨v1,v2,v3,vc,vt,vy,e,h1,h2,h3,h4,h5,h6,h7⟩:=h;exact ⟨v1,v2,v3,vc,vt,vy,e,h1.mono hc,h2.mono hc,h3.mono hc,h4.mono hc,h5.mono hc,h6.mono hc,h7⟩
theorem qo' {r:Reach} {b0:Nat} {v:Value} {d:DataW H} {ps:List MemPlace} (hval:Value.okWide Tryz.prog w r b0 31 v) (h:DataW.Trod enc Tryz.prog w 0 spare held 31 v d ps) (hB:Rows.uptoBulk d <= 1048576) :
  ∃ x,CaV (Im [] w) x v:=by
 obtain ⟨cs,rfl,hs⟩:=okWide_struct Tryz.underlying31 hval;obtain ⟨fuel,hf0⟩:=h;obtain ⟨xs,m,rfl,hx,hl,hxl,hf⟩:=DataW.trod_struct Tryz.underlying31 hf0;have hsz:cs.size = 9:=by rw [hs]; kernel_rfl
 obtain ⟨cs⟩:=cs
 match cs,hsz,xs,hxl with
 | [c0,c1,c2,c3,c4,c5,c6,c7,c8],_,[x0,x1,x2,x3,x4],_ =>
  have hd:d = .agg ([x0,x1,x2,x3,x4].map (·.1)):=(Prod.mk.injEq .. ▸ hx).1;rw [hd] at hB;have g0:=hf 0 _ rfl;have g1:=hf 1 _ rfl;have g2:=hf 2 _ rfl;have g3:=hf 3 _ rfl;have g4:=hf 4 _ rfl;simp [Value.cells,show Tryz.prog.cellsOf 26 = 5 by kernel_rfl,show Tryz.prog.cellsOf 27 = 1 by kernel_rfl,show Tryz.prog.cellsOf 29 = 1 by kernel_rfl,show Tryz.prog.cellsOf 3 = 1 by kernel_rfl] at g0 g1 g2 g3 g4;obtain ⟨bo,w1,w2,w3,e0,i0,i1,h1,h2,h3⟩:=us' rfl g0 (aP' (x:=x0) (by simp) hB);obtain ⟨l1,k1⟩:=eH' rBd (by decide) Tryz.underlying27 (by kernel_rfl) (fun cs n y hl hn hb=>ut' hl hn hb) g1 (aP' (x:=x1) (by simp) hB);obtain ⟨l2,k2⟩:=bQ' g2 (aP' (x:=x2) (by simp) hB);obtain ⟨l3,k3⟩:=bQ' g3 (aP' (x:=x3) (by simp) hB);obtain ⟨z4,e4,i4⟩:=cu' g4;simp at e0 e4;obtain ⟨rfl,rfl,rfl,rfl,rfl⟩:=e0;subst e4;exact ⟨⟨bo,l1,l2,l3,z4⟩,CaV.mono (C:=Old w) ⟨_,_,_,_,_,_,rfl,h1,h2,h3,k1,k2,k3,i4⟩ fun b o v h=>⟨Old.sub w _ _ _ h,by simp⟩⟩
end
end Go.Proofs.YtpealcfjbcpoiaaGreat
