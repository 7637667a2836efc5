import Derived.Test.YtmlnlmkmpgkekaaGreatMy23
set_option linter.unusedVariables false
set_option linter.unusedSimpArgs false
set_option maxRecDepth 100000
set_option maxHeartbeats 4000000
namespace Go.Proofs.YtmlnlmkmpgkekaaGreat
open Go.Wx Cd Tm Lv Nm Vm
def numRow (nat:Int):Nat -> List Nd
 | 0=>[⟨10,nat,0⟩]
 | k + 1=>⟨6,0,0⟩ :: ⟨10,nat,1⟩ :: numRow nat k
theorem cZ' (nat:Int):∀ k,(numRow nat k).length = 2 * k + 1
 | 0=>rfl
 | k + 1=>by simp only [numRow,JV,cZ' nat k]; omega
theorem qx' (x y:Operand) (p q:Nd) (h:p = q) (w:World):(do eqGuard .eql 42 x y (.agg #[iV p.op,iV p.a,iV p.b]) (.agg #[iV q.op,iV q.a,iV q.b]); binOp .eql 42 (.agg #[iV p.op,iV p.a,iV p.b]) (.agg #[iV q.op,iV q.a,iV q.b]):Sem Value).run Tryz.prog w = .ok (.bool true) w:=by
 rw [eU',decide_eq_true h]
theorem lY' (x y:Operand) (p q:Nd) (h:p = q) (w:World):(do eqGuard .neq 42 x y (.agg #[iV p.op,iV p.a,iV p.b]) (.agg #[iV q.op,iV q.a,iV q.b]); binOp .neq 42 (.agg #[iV p.op,iV p.a,iV p.b]) (.agg #[iV q.op,iV q.a,iV q.b]):Sem Value).run Tryz.prog w = .ok (.bool false) w:=by
 rw [eT',decide_eq_true h]
 rfl
section
variable {B:BoT} {X:List Nat} {w:World} {be:Nat} {n:Nat} {va:Value}
theorem lZ' {C D:Mem} (hS:Sub C w) (hD:Sub D w) (l:List Nat) (xs:List Int) (a ax:Option Addr) (cap cx:Nat) (hl:Sl rU8 C a l) (hx:Sl rInt D ax xs) (hpos:∀ x ∈ xs,0 <= x) (hll:(l ++ aW' xs).length <= 549755813888) (p:Value) :
  CC 48 #[p,.slice a l.length cap,.slice ax xs.length cx] w (fun e w'=>(∃ v,e = .returned v /\ SV rU8 (New w.heap.size w') (l ++ aW' xs) v) /\ Kp [] w w'):=by
 refine oF Tryz.func48 ?_;refine cO (args:=[_,_,_]) 17 [.tmp 6] τok Tryz.func48 ?_;refine ab' (vM' hS hD l xs a ax cap cx hl hx hpos hll) ?_;rintro e w1 ⟨v,rfl,hO,hk1⟩;refine ab' (fe' w1) ?_;rintro e w2 ⟨⟨v2,rfl⟩,hk2⟩;obtain ⟨ad,cd,hvd,hcd⟩:=hO.cap;obtain ⟨ad',cd',hvd',hsd⟩:=hO.den (by omega);rw [hvd] at hvd';injection hvd' with q1 q2 q3
 subst q1 q3;subst hvd;exact ⟨⟨_,rfl,ad,cd,rfl,hsd.mono fun b o v h=>⟨h.1,h.2.kp hk2 (by simp)⟩,hcd⟩,hk1.tr hk2⟩
theorem qy' (hJ:EraC (Im X w) w be B n va) (hX:XL X w) (k:Nat) (hk:k <= 1000000) {v:Value} (hv:SV rNd (Im X w) (numRow B.nat k) v) :
  CC 47 #[pt be,v] w (fun e w'=>(∃ v,e = .returned v /\ uv' k w w' v) /\ Kp [] w w'):=by
 refine oF Tryz.func47 ?_;obtain ⟨v1,v2,v3,hJb,hO,hE,hP⟩:=hJ;obtain ⟨av,cv,rfl,_,_⟩:=id hv;refine cO (args:=[_,_]) 50 [.tmp 4] τok Tryz.func47 ?_;refine lp τok (σ:=Nat × Value) (fun q=>[(0,pt be),(1,q.2),(5,.int .u64 ((k - q.1:Nat):Int))])
  (fun q w'=>q.1 <= k /\ SV rNd (Im X w) (numRow B.nat q.1) q.2 /\ Kp [] w w') (fun q=>q.1) (k,_) rfl ⟨rfl,rfl,by rw [Nat.sub_self]; rfl,trivial⟩ ⟨KJ _,hv,Kp.refl _ _⟩ ?_
 rintro ⟨j,vv⟩ w1 ⟨hj,hV,hk1⟩;simp only at hj hV;have hS1:Sub (Im X w) w1:=(Im.sub X w).tr hk1;have hJ1:=hJb.kp hk1 (by simp);obtain ⟨a1,c1,rfl,hs1,hc1⟩:=id hV;have hlen:=cZ' B.nat j;cases j with
 | zero =>
  obtain ⟨b0,o0,rfl,_,_,_,hc0⟩:=dB' hs1 (i:=0) (x:=⟨10,B.nat,0⟩) rfl;refine aq' τok (fun z=>Kp [] w1 z) ?_;refine rV τok (rg 0 22) 0 (mR 22 22) (kQd w1) ?_;refine dV ?_;refine aq' τok (fun z=>Kp [] w1 z) ?_;refine rV τok (rg 0 15) 0 (mR 15 15) (kQd w1) ?_;refine ix 0 rfl (by omega) ?_;refine cB' [iV 10,iV B.nat,iV 0] rfl (fun j v hj=>hS1 _ _ _ (hc0 j v hj)) ?_;refine lk hJ1 ?_;refine qZ' (v:=.bool false) (fun w _=>lY' _ _ ⟨10,B.nat,0⟩ ⟨10,B.nat,0⟩ rfl w) ?_;refine dV ?_;refine ab' (sr' k (by omega) _) ?_;rintro e w2 ⟨⟨v,rfl,hv2⟩,hk2⟩;have hw2:Kp [] w w2:=hk1.tr hk2.rd.rd;refine ⟨⟨v,rfl,?_⟩,hw2⟩;obtain ⟨a,c,rfl,h1,h2⟩:=hv2;exact ⟨a,c,rfl,h1.mono fun b o v h=>⟨KQ hk1.size h.1,h.2⟩,h2⟩
 | succ j =>
  obtain ⟨R,hR⟩:∃ R,numRow B.nat (j + 1) = R:=⟨_,rfl⟩
  rw [hR] at hV hs1 hc1 hlen ⊢;obtain ⟨b0,o0,rfl,_,_,_,hc0⟩:=dB' hs1 (i:=0) (x:=⟨6,0,0⟩) (by rw [<- hR]; rfl);obtain ⟨b1,o1,q1,_,_,_,hc1'⟩:=dB' hs1 (i:=1) (x:=⟨10,B.nat,1⟩) (by rw [<- hR]; rfl);injection q1 with q1
  injection q1 with q1 q2
  subst q1 q2;refine aq' τok (fun z=>Kp [] w1 z) ?_;refine rV τok (rg 0 22) 0 (mR 22 22) (kQd w1) ?_;refine ar' (p:=(2:Int) < (R.length:Int)) (by omega) ?_;refine ix 0 rfl (by omega) ?_;refine ldK (hS1 _ _ _ (by simpa using hc0 0 _ rfl)) ?_;refine ix 1 rfl (by omega) ?_;refine cB' [iV 10,iV B.nat,iV 1] rfl (fun j v hj=>hS1 _ _ _ (hc1' j v hj)) ?_;refine lk hJ1 ?_;refine qZ' (v:=.bool true) (fun w _=>qx' _ _ ⟨10,B.nat,1⟩ ⟨10,B.nat,1⟩ rfl w) ?_;refine dV ?_;refine u64n (k - j) (by omega) (by omega) ?_;have hd:=hs1.dropN 2;have e2:R.drop 2 = numRow B.nat j:=by rw [<- hR]; rfl
  rw [e2] at hd;have hlj:=cZ' B.nat j;refine fX' τok rfl 2 (.slice (some ⟨b0,o0 + 2 * 3,none⟩) (numRow B.nat j).length (c1 - 2)) rfl (by omega) (by rw [show (numRow B.nat j).length = R.length - 2 by omega]; exact eE' (by omega)) ?_;refine ⟨(j,_),Nat.lt_succ_self _,rfl,⟨rfl,rfl,rfl,trivial⟩,by show j <= k; omega,?_,hk1.dr _⟩;exact ⟨_,_,rfl,hd,by show (numRow B.nat j).length <= c1 - 2; omega⟩
end
def hE' (nat:Int):List Nd -> Option Nat
 | [x]=>if x = ⟨10,nat,0⟩ then some 0 else none
 | x :: y :: r=>if x = ⟨6,0,0⟩ /\ y = ⟨10,nat,1⟩ then (hE' nat r).map (· + 1) else none
 | []=>none
theorem kV' (nat:Int):∀ k,hE' nat (numRow nat k) = some k
 | 0=>by simp [hE',numRow]
 | k + 1=>by simp [numRow,hE',kV' nat k]
theorem kW' (nat:Int):∀ (l:List Nd) k,hE' nat l = some k -> l = numRow nat k
 | [],k,h=>by simp [hE'] at h
 | [x],k,h=>by
  simp only [hE'] at h;split at h
  ·rename_i g
   injection h with h
   subst g h
   rfl
  ·cases h
 | x :: y :: r,k,h=>by
  have h:(if x = ⟨6,0,0⟩ /\ y = ⟨10,nat,1⟩ then (hE' nat r).map (· + 1) else none) = some k:=by
   cases r <;> exact h
  split at h
  ·rename_i g
   cases hr:hE' nat r with
   | none=>rw [hr] at h; cases h
   | some j =>
    rw [hr] at h;injection h with h
    subst h;rw [kW' nat r j hr,g.1,g.2]
    rfl
  ·cases h
abbrev vY':=Tr -> Nat -> Option (List Nat × Nat)
def fi' (rc:vY'):List (Tr × Bool) -> Nat -> Option (List Nat × Nat)
 | [],n=>some ([],n)
 | q :: r,n=>if q.2 = true then (rc q.1 n).bind fun a=>(fi' rc r a.2).map fun b=>(a.1 ++ b.1,b.2) else fi' rc r n
def vN' (k:Nat):List Nat:=aW' [0,((hT' BB k).length:Int)] ++ (hT' BB k).flatMap (fun (d:Nat)=>aW' [(d:Int)])
def countB (ks:List Bool):Nat:=(ks.filter id).length
def dO' (B:BoT):Nat -> vY'
 | 0,_,_=>none
 | g + 1,t,n =>
  if (headT t).n.op ≠ 10 then none
  else if (headT t).n.a = B.nat then (hE' B.nat (row t)).map fun k=>(vN' k,n)
  else if (tr (bm' B (headT t).n.a).sort).n.a ≠ 1 \/ (argsT t).length ≠ nPar B (headT t).n.a + (ctD B (headT t).n.a (headT t).n.b).args.length then none
  else match kS' B (headT t).n.a (headT t).n.b n with
   | .error _=>none
   | .ok q=>(fi' (dO' B g) (((argsT t).drop (nPar B (headT t).n.a)).zip q.1) q.2).map fun a=>(aW' [(headT t).n.b + 1,(countB q.1:Int)] ++ a.1,a.2)
theorem jC' {rc:vY'} (hr:∀ t n q,rc t n = some q -> q.2 <= n):∀ (l:List (Tr × Bool)) n q,fi' rc l n = some q -> q.2 <= n
 | [],n,q,h=>by
  simp only [fi'] at h;injection h with h
  subst h;exact KJ _
 | x :: r,n,q,h=>by
  simp only [fi'] at h;split at h
  ·obtain ⟨a,ha,h⟩:=Option.bind_eq_some_iff.1 h
   obtain ⟨b,hb,rfl⟩:=Option.map_eq_some_iff.1 h;have h1:=hr _ _ _ ha;have h2:=jC' hr r _ _ hb;simp only;omega
  ·exact jC' hr r _ _ h
theorem nt' {B:BoT} (hB:GoodB B):∀ (g:Nat) t n q,dO' B g t n = some q -> q.2 <= n
 | 0,t,n,q,h=>by cases h
 | g + 1,t,n,q,h=>by
  simp only [dO'] at h;split at h
  ·cases h
  split at h
  ·obtain ⟨k,_,rfl⟩:=Option.map_eq_some_iff.1 h
   exact KJ _
  split at h
  ·cases h
  split at h
  ·cases h
  ·rename_i p hp
   obtain ⟨a,ha,rfl⟩:=Option.map_eq_some_iff.1 h;have h1:=(go' hB _ _ _ _ hp).2;have h2:=jC' (nt' hB g) _ _ _ ha;simp only;omega
def vO' (B:BoT) (va:Value) (g:Nat) (rc:vY'):Prop :=
 ∀ {X:List Nat} {w:World} {be n:Nat} {t:Tr} {v vo:Value} {l:List Nat} {q:List Nat × Nat},(XL X w) -> be ∈ X -> EraC (Im X w) w be B n va -> n <= 100000 -> Ft (QB B) 0 t -> (row t).length <= g -> TmV (Im X w) t v -> SV rU8 (Im X w) l vo -> rc t n = some q -> (l ++ q.1).length <= 500000000 ->
  CC 25 #[pt be,vo,v] w (fun e w'=>(∃ u,e = .returned u /\ SV rU8 (Im X w') (l ++ q.1) u /\ EraC (Im X w') w' be B q.2 va) /\ Kp [be] w w')
theorem ma' {X:List Nat} {w:World} {b T:Nat} {xs:List Int} (hB:Bk w.heap b (xs.map fun x=>iV x) T) (hb:b ∉ X) (h64:∀ x ∈ xs,Go.Wx.I64 x) (hl:xs.length <= 100):Sl rInt (Im X w) (some ⟨b,0,none⟩) xs :=
 ⟨by omega,.inr ⟨b,0,rfl,fun i x hx=>⟨[iV x],⟨rfl,h64 x (JQ hx)⟩,fun j u hj=>by
  match j,hj with
  | 0,hj =>
   obtain rfl:=JB hj;refine ⟨hB.cl (o:=0 + i * 1 + 0) ?_,hb⟩;rw [JX,show 0 + i * 1 + 0 = i by omega,hx]
   rfl⟩⟩⟩
section
variable {B:BoT}
theorem ux' (hB:GoodB B) (va:Value):∀ g,vO' B va g (dO' B g):=by
 intro g
 induction g with
 | zero =>
  intro X w be n t v vo l q hX hbe hJ hn ht hg;have:=ag' t;omega
 | succ g ih =>
  intro X w be n t v vo l q hX hbe hJ hn ht hg hv hvo hq hql;refine oF Tryz.func25 ?_;simp only [dO'] at hq;have htl:=ht.len;have hna:=ht.nargs;have hhF:=ht.head;obtain ⟨hd,hhd⟩:∃ hd,(headT t).n = hd:=⟨_,rfl⟩
  rw [hhd] at hq;have hQ:=hhF.node';rw [hhd] at hQ;have hpb:=aQ' hhF.ok.pl;rw [hhd] at hpb;have hvv:=hv;obtain ⟨av,cv,rfl,hsv,hcv⟩:=hv;obtain ⟨ao,co,rfl,hso,hco⟩:=id hvo;refine cO (args:=[_,_,_]) 141 [.tmp 6] τok Tryz.func25 ?_;refine ab' (gF' (Im.sub X w) (fun _ _ _ h=>h.hold) t ht.ok av cv hsv hcv htl) ?_;rintro e w1 ⟨⟨vh,vg,rfl,hh,hgs⟩,hk1⟩;have hh:=hh.tv hX;have hgs:=hgs.tv hX;obtain ⟨bt,ot,ct,rfl,hi1,hi2,hi3,hhc⟩:=hh.hd;rw [hhd] at hi1 hi2 hi3 hhc;obtain ⟨ag,cg,rfl,_,_⟩:=id hgs;refine ix 0 rfl (ag' _) ?_;refine ldN [iV hd.op,iV hd.a,iV hd.b] rfl (fun j u hj=>by rw [show ot + 0 * 3 + j = ot + j by omega]; exact (hhc j u hj).1) ?_;refine new fun b9 w2 hb9 h9 hs2 hk2=>?_;refine stN (vs:=[iV hd.op,iV hd.a,iV hd.b]) h9 rfl (by simp [Value.oneCell']) fun w3 h9 hs3 hk3=>?_;have k13:=hk2.newSt hb9 hk3;have h9:Bk w3.heap b9 [iV hd.op,iV hd.a,iV hd.b] 42:=h9;have k03:=hk1.tr k13;have hX1:=xU hX hk1;have hX3:=xU hX k03;have hb9X:b9 ∉ X:=fun hm=>by
   have h1:=hX1 _ hm;omega
  have up3:∀ b o v,Im X w b o v -> Im X w3 b o v:=fun b o v h=>h.tr k03;have hJ3:EraC (Im X w3) w3 be B n va:=(hJ.mono up3).kp k03 (by simp);have hgs3:=hgs.mono fun b o v h=>Im.tr k13 h;split at hq
  ·cases hq
  rename_i g1;have g1:hd.op = 10:=by omega
  refine lb h9 ?_;refine bE' (p:=hd.op ≠ 10) (by omega) ?_;obtain ⟨v1,v2,v3,hJb,hO,hE,hP⟩:=id hJ3;refine aq' τok (fun z=>Kp [] w3 z) ?_;refine rV τok (rg 0 8) 0 (mR 8 8) (kQd w3) ?_;refine lk h9 ?_;refine lk hJb ?_;refine dV ?_;refine ac' (fun g2=>?_) (fun g2=>?_)
  ·have g2:hd.a = B.nat:=g2
   rw [if_pos g2] at hq;obtain ⟨k,hk,rfl⟩:=Option.map_eq_some_iff.1 hq;have hrow:=kW' _ _ _ hk;have hkl:=cZ' B.nat k;rw [<- hrow] at hkl;obtain ⟨wd,hwd⟩:∃ wd,wd = (dr w3):=⟨_,rfl⟩
   have kd3:Kp [] w3 wd:=by rw [hwd]; exact (Kp.refl [] w3).dr _
   rw [<- hwd];have kwd:=k03.tr kd3;have hXd:=xU hX kwd;have upd:∀ b o v,Im X w b o v -> Im X wd b o v:=fun b o v h=>h.tr kwd;have hJd:EraC (Im X wd) wd be B n va:=(hJ.mono upd).kp kwd (by simp);refine ab' (qy' hJd hXd k (by omega) (by rw [<- hrow]; exact TmV.sv.1 (hvv.mono upd))) ?_;rintro e w4 ⟨⟨v4,rfl,hn4⟩,hk4⟩;obtain ⟨a4,c4,rfl,hs4,hc4⟩:=hn4;obtain ⟨ds,hds⟩:∃ ds,hT' BB k = ds:=⟨_,rfl⟩
   unfold vN' at hql ⊢;rw [hds] at hs4 hc4 hql ⊢;have hdl:=hs4.1;refine fill [iV 0,iV (ds.length:Int)] rfl ?_;refine new fun b5 w5 hb5 h5 hs5 hk5=>?_;have hX4:=xU hXd hk4;have hX5:=xU hX4 hk5;have hb5X:b5 ∉ X:=fun hm=>by
    have h1:=hX4 _ hm;omega
   have kd5:=hk4.tr hk5;have k05:=kwd.tr kd5;have up5:∀ b o v,Im X w b o v -> Im X w5 b o v:=fun b o v h=>h.tr k05;have hlb:l.length + (aW' [0,(ds.length:Int)]).length <= 500000000:=by
    simp only [JK] at hql;omega
   refine ab' (lZ' (Im.sub X w5) (Im.sub X w5) l [0,(ds.length:Int)] ao (some ⟨b5,0,none⟩) co 2 (hso.mono up5) (ma' h5 hb5X (by intro x hx; unfold Go.Wx.I64; simp at hx; omega) (by simp)) (by intro x hx; simp at hx; omega) (by simp only [JK]; omega) (pt be)) ?_;rintro e w6 ⟨⟨v6,rfl,hv6⟩,hk6⟩;have hv6:SV rU8 (Im X w6) _ v6:=hv6.mono fun b o v h=>Im.of_new hX5 h;obtain ⟨a6,c6,rfl,_,_⟩:=id hv6;have k06:=k05.tr hk6;have kd6:=kd5.tr hk6;refine lp τok (σ:=Nat × Value) (fun q=>[(0,pt be),(1,q.2),(49,.slice a4 ds.length c4),(50,iV (ds.length:Int)),(51,iV (q.1:Int))])
    (fun q w'=>q.1 <= ds.length /\ SV rU8 (Im X w') (l ++ aW' [0,(ds.length:Int)] ++ (ds.take q.1).flatMap fun (d:Nat)=>aW' [(d:Int)]) q.2 /\ Kp [] w6 w') (fun q=>ds.length - q.1) (0,_) rfl ⟨rfl,rfl,rfl,rfl,rfl,trivial⟩ ⟨KV _,by simpa using hv6,Kp.refl _ _⟩ ?_
   rintro ⟨i,vv⟩ w7 ⟨hi,hV,hk7⟩;simp only at hi hV;have k07:=k06.tr hk7;have hX7:=xU hX k07;obtain ⟨a7,c7,rfl,hs7,hc7⟩:=id hV;refine ac' (fun g3=>?_) (fun g3=>?_)
   ·have g3:(i:Int) < (ds.length:Int):=g3
    obtain ⟨d,hd',hdr⟩:=af' (l:=ds) (k:=i) (by omega);obtain ⟨b8,o8,rfl,hc8,hdB⟩:=hs4.nat hd';refine ix i rfl (by omega) ?_;refine ld (((New.sub _ _) _ _ _ hc8).kp (hk5.tr (hk6.tr hk7)) (by simp)).cell ?_;have hdB:d < 4294967296:=hdB;refine i6 ?_;refine fill [iV (d:Int)] rfl ?_;refine new fun bx w8 hbx hx8 hs8 hk8=>?_;have hX8:=xU hX7 hk8;have hbxX:bx ∉ X:=fun hm=>by
     have h1:=hX7 _ hm;omega
    have htk:(ds.take (i + 1)).flatMap (fun (d:Nat)=>aW' [(d:Int)]) = (ds.take i).flatMap (fun (d:Nat)=>aW' [(d:Int)]) ++ aW' [(d:Int)]:=by
     rw [aj' hd'];simp
    have hfull:ds.flatMap (fun (d:Nat)=>aW' [(d:Int)]) = (ds.take (i + 1)).flatMap (fun (d:Nat)=>aW' [(d:Int)]) ++ (ds.drop (i + 1)).flatMap (fun (d:Nat)=>aW' [(d:Int)]):=by
     rw [<- List.flatMap_append,List.take_append_drop]
    have hlen2:(l ++ aW' [0,(ds.length:Int)] ++ (ds.take i).flatMap (fun (d:Nat)=>aW' [(d:Int)]) ++ aW' [(d:Int)]).length <= 500000000:=by
     rw [hfull,htk] at hql;simp only [JK] at hql ⊢;omega
    refine ab' (lZ' (Im.sub X w8) (Im.sub X w8) _ [(d:Int)] a7 (some ⟨bx,0,none⟩) c7 1 (hs7.mono fun b o v h=>h.tr hk8) (ma' hx8 hbxX (by intro x hx; unfold Go.Wx.I64; simp at hx; omega) (by simp)) (by intro x hx; simp at hx; omega) (by omega) (pt be)) ?_;rintro e w9 ⟨⟨v9,rfl,hv9⟩,hk9⟩;have hv9:SV rU8 (Im X w9) _ v9:=hv9.mono fun b o v h=>Im.of_new hX8 h;have o9:=hv9.one;refine i6 ?_;refine ⟨(i + 1,v9),by simp only; omega,rfl,⟨rfl,rfl,rfl,rfl,rfl,trivial⟩,by show i + 1 <= ds.length; omega,?_,hk7.tr (hk8.tr hk9)⟩;simp only;rw [htk,<- List.append_assoc];exact hv9
   have g3:¬ (i:Int) < (ds.length:Int):=g3;rw [JG (by omega)] at hV ⊢;exact ⟨⟨_,rfl,by rw [<- List.append_assoc]; exact hV,(hJ.mono fun b o v h=>h.tr k07).kp k07 (by simp)⟩,k07.weak (by simp)⟩
  have g2:¬ hd.a = B.nat:=g2;rw [if_neg g2] at hq;split at hq
  ·cases hq
  rename_i g3;have hfam:=hL' hQ (.inl g1);obtain ⟨i,x,s,ps,qi,hia,_,hi0,hxD,hF⟩:=hB.fam hfam (KJ _);have htr:tr x.sort = s:=by rw [hF.sort]; exact dH' hF.fs.ok
  have hcb:=mS' hQ g1;obtain ⟨e1,e2,e3⟩:=hF.ps_eq hi0;have hnp:nPar B hd.a = ps.length:=by
   unfold nPar;rw [hxD,hF.params,List.length_map]
  rw [hnp] at g3 hq;have g3a:s.n.a = 1:=by
   rw [hxD,htr] at g3
   by_cases h:s.n.a = 1
   ·exact h
   ·exact absurd (.inl h) g3
  have g3b:(argsT t).length = ps.length + (ctD B hd.a hd.b).args.length:=by
   by_cases h:(argsT t).length = ps.length + (ctD B hd.a hd.b).args.length
   ·exact h
   ·exact absurd (.inr h) g3
  obtain ⟨bn,hbn⟩:∃ k:Nat,hd.b = (k:Int):=⟨hd.b.toNat,by omega⟩
  rw [hxD] at hcb;obtain ⟨c,hc,_⟩:=af' (l:=x.ctors) (k:=bn) (by omega);obtain ⟨ga,go,hC⟩:=hF.ct bn c hc;have hcD:ctD B hd.a hd.b = c:=by
   unfold ctD;rw [hxD,hbn];show x.ctors.getD bn default = c;rw [List.getD_eq_getElem?_getD,hc]
   rfl
  rw [hcD,hC.args,List.length_map] at g3b;have hla:=hC.la;have hlp:=hF.lp;obtain ⟨be',oe,ce,rfl,hat⟩:=hE.at hi0;obtain ⟨w1e,w2e,w3e,w4e,w5e,w6e,hcs,hki,hso',hpa,hin,hct,hty,hbo⟩:=cW' hat;rw [hF.sort] at hso';have hso':=TmV.sv.2 hso';have hone:∀ v ∈ [iV x.kind,w1e,w2e,w3e,w4e,w5e,w6e],v.oneCell' = true:=fun v hv=>by
   simp at hv;rcases hv with rfl | rfl | rfl | rfl | rfl | rfl | rfl
   ·rfl
   ·exact (TmV.sv.1 hso').one
   ·exact hpa.one
   ·exact hin.one
   ·exact hct.one
   ·exact hty.one
   ·exact hbo.one
  obtain ⟨ap,cp,rfl,_,_⟩:=id hpa;obtain ⟨ai,ci,rfl,_,_⟩:=id hin;obtain ⟨bs,os,cs,rfl,his1,his2,his3,hsc⟩:=hso'.hd;obtain ⟨acc,ccc,rfl,_,_⟩:=id hct;obtain ⟨bc,oc,cc',pc,hca⟩:=hct.at hc;obtain ⟨vca,vco,hccs,hvca,_⟩:=gb' hca;obtain ⟨aca,cca,rfl,_,_⟩:=id hvca;injection pc with q1 q2 q3
  subst q1 q3;obtain ⟨wd,hwd⟩:∃ wd,wd = (dr w3):=⟨_,rfl⟩
  have kd3:Kp [] w3 wd:=by rw [hwd]; exact (Kp.refl [] w3).dr _
  rw [<- hwd];refine aq' τok (fun z=>Kp [] wd z) ?_;refine rV τok (rg 0 9) 2 (mR 11 9) (kQd wd) ?_;refine ldK ((hJb.kp kd3 (by simp)).cl rfl) ?_;refine ldK ((h9.kp kd3 (by simp)).cl rfl) ?_;refine ix i hia (ai' hi0) ?_;refine cB' [iV x.kind,.slice (some ⟨bs,os,none⟩) (row s).length cs,.slice ap x.params.length cp,.slice ai x.indices.length ci,.slice (some ⟨bc,oc,none⟩) x.ctors.length ccc,w5e,w6e] rfl (fun j v hj=>(hcs j v hj).1.kp kd3 (by simp)) ?_;refine nV τok 9 1 (mR 11 10) ?_;refine new fun b13 w4 hb13 h13 hs4 hk4=>?_;have hk4:Kp [] wd w4:=hk4.rd;refine ⟨.inl hk4,?_⟩;refine nV τok 10 0 (mR 11 11) ?_;refine stN (vs:=[iV x.kind,.slice (some ⟨bs,os,none⟩) (row s).length cs,.slice ap x.params.length cp,.slice ai x.indices.length ci,.slice (some ⟨bc,oc,none⟩) x.ctors.length ccc,w5e,w6e]) h13 rfl hone fun w5 h13 hs5 hk5=>?_;refine ⟨.inr (by kernel_rfl),?_⟩;refine dV ?_;have kd5:=hk4.newSt hb13 hk5;have k35:=kd3.tr kd5;have k05:=k03.tr k35;have h9:=h9.kp k35 (by simp);have h13:Bk w5.heap b13 [iV x.kind,.slice (some ⟨bs,os,none⟩) (row s).length cs,.slice ap x.params.length cp,.slice ai x.indices.length ci,.slice (some ⟨bc,oc,none⟩) x.ctors.length ccc,w5e,w6e] 72:=h13;have hb13X:b13 ∉ X:=fun hm=>by
   have h1:=hX3 _ hm;have h2:=kd3.size;have h3:b13 = wd.heap.size:=hb13;omega
  have up5:∀ b o v,Im X w3 b o v -> Im X w5 b o v:=fun b o v h=>h.tr k35;have hX5:=xU hX3 k35;have hJ5:EraC (Im X w5) w5 be B n va:=(hJ3.mono up5).kp k35 (by simp);have hpl:x.params.length = ps.length:=by rw [hF.params,List.length_map]
  have hcal:c.args.length = ga.length:=by rw [hC.args,List.length_map]
  refine aq' τok (fun z=>Kp [] w5 z) ?_;refine rV τok (rg 0 23) 0 (mR 23 23) (kQd w5) ?_;refine lk h13 ?_;refine ix 0 rfl (ag' _) ?_;refine ldK (up5 _ _ _ (by simpa using hsc 1 _ rfl)).1 ?_;refine bE' (p:=s.n.a ≠ 1) (by omega) ?_;refine lk h13 ?_;refine lk h13 ?_;refine lk h9 ?_;refine ix bn hbn (ai' hc) ?_;refine ldK (up5 _ _ _ (hccs 0 _ rfl)).1 ?_;refine i6 ?_;refine dV ?_;refine bE' (p:=((argsT t).length:Int) ≠ (x.params.length:Int) + (c.args.length:Int)) (by omega) ?_;have hxc:(bm' B hd.a).ctors.length = x.ctors.length:=by rw [hxD]
  refine ld (Cl.cell ((h9.kp ((Kp.refl [] w5).dr _) (by simp)).cl rfl)) ?_;refine ld (Cl.cell ((h9.kp ((Kp.refl [] w5).dr _) (by simp)).cl rfl)) ?_;obtain ⟨we,hwe⟩:∃ we,we = (dr w5):=⟨_,rfl⟩
  have kde:Kp [] w5 we:=by rw [hwe]; exact (Kp.refl [] w5).dr _
  rw [<- hwe];have hXe:=xU hX5 kde;refine ab' (qv' hB hXe hbe ((hJ5.mono fun b o v h=>h.tr kde).kp kde (by simp)) hn hfam (by omega) (by rw [hxc,hbn]; exact Int.ofNat_lt.2 (ai' hc))) ?_;rintro e w6 he;rcases he.cs with ⟨er,hz,rfl,hk6⟩ | ⟨⟨ks,n6⟩,u6,hz,rfl,hu6,hJ6,hk6⟩
  ·rw [hz] at hq
   cases hq
  rw [hz] at hq;obtain ⟨a,ha,rfl⟩:=Option.map_eq_some_iff.1 hq;obtain ⟨hkl,hn6⟩:=go' hB _ _ _ _ hz;simp only at hu6 hJ6 hkl hn6 ha;have hag:agM B hd.a hd.b = ga:=by
   rw [hia,hbn];exact (hC.ag_eq hi0 hc).1
  rw [hag] at hkl;obtain ⟨aks,cks,rfl,hsk,hck⟩:=hu6;have k56:Kp [be] w5 w6:=(kde.weak (by simp)).tq hk6;have k06:Kp [be] w w6:=(k05.weak (by simp)).tq k56;have hne9:b9 ∉ [be]:=by simp; intro h; exact hb9X (h ▸ hbe)
  have hne13:b13 ∉ [be]:=by simp; intro h; exact hb13X (h ▸ hbe)
  have h9:=h9.kp k56 hne9;have h13:=h13.kp k56 hne13;have hX6:=xU hX k06;have hvo6:=hvo.mono (Im.kb k06 hbe);have hgs6:=(hgs3.mono up5).mono (Im.kb k56 hbe);refine lp τok (σ:=Nat) (fun j=>[(0,pt be),(1,.slice ao l.length co),(8,.slice ag (argsT t).length cg),(9,pt b9),(13,pt b13),(14,.slice aks ks.length cks),(15,iV ((countB (ks.take j):Nat):Int)),(102,.slice aks ks.length cks),(103,iV (ks.length:Int)),(104,iV (j:Int))])
   (fun j w'=>j <= ks.length /\ w' = w6) (fun j=>ks.length - j) 0 rfl ⟨rfl,rfl,rfl,rfl,rfl,rfl,rfl,rfl,rfl,rfl,trivial⟩ ⟨KV _,rfl⟩ ?_
  rintro j w7 ⟨hj,rfl⟩;have hcle:∀ r:List Bool,countB r <= r.length:=fun r=>List.length_filter_le _ _;refine ac' (fun g4=>?_) (fun g4=>?_)
  ·have g4:(j:Int) < (ks.length:Int):=g4
   obtain ⟨bb,hbb,_⟩:=af' (l:=ks) (k:=j) (by omega);obtain ⟨bk,ok,rfl,hcell⟩:=hsk.at (by omega:j < ks.length)
   obtain ⟨cs',hcs',hcc'⟩:=hcell j bb hbb;have hcs':cs' = [.bool bb]:=hcs';subst hcs';have hcl:=hcc' 0 _ rfl;refine ix j rfl (by omega) ?_;refine ld (Cl.cell (New.sub _ _ _ _ _ hcl)) ?_;have hcnt:=hcle (ks.take j);have htk:countB (ks.take (j + 1)) = countB (ks.take j) + (if bb = true then 1 else 0):=by
    unfold countB;rw [aj' hbb,List.filter_append];cases bb <;> simp
   have hlt:=List.length_take_le j ks;cases bb with
   | true =>
    refine i6 ?_;refine i6 ?_;refine ⟨j + 1,by omega,rfl,⟨rfl,rfl,rfl,rfl,rfl,rfl,?_,rfl,rfl,rfl,trivial⟩,by omega,rfl⟩;rw [htk]
    rfl
   | false =>
    refine i6 ?_;refine ⟨j + 1,by omega,rfl,⟨rfl,rfl,rfl,rfl,rfl,rfl,?_,rfl,rfl,rfl,trivial⟩,by omega,rfl⟩;rw [htk]
    rfl
  have g4:¬ (j:Int) < (ks.length:Int):=g4;obtain rfl:j = ks.length:=by omega
  rw [JG (KJ _)];have hcnt:=hcle ks;obtain ⟨pre,hpre⟩:∃ pre,aW' [hd.b + 1,(countB ks:Int)] = pre:=⟨_,rfl⟩
  rw [hpre] at hql ⊢;refine lb h9 ?_;refine i6 ?_;refine fill [iV (hd.b + 1),iV (countB ks:Int)] rfl ?_;refine new fun b7 w8 hb7 h7 hs7 hk8=>?_;have hX8:=xU hX6 hk8;have hb7X:b7 ∉ X:=fun hm=>by
   have h1:=hX6 _ hm;omega
  have hpl2:(l ++ pre).length <= 500000000:=by
   simp only [JK] at hql ⊢;omega
  have hnum:=lZ' (Im.sub X w8) (Im.sub X w8) l [hd.b + 1,(countB ks:Int)] ao (some ⟨b7,0,none⟩) co 2 ((hso.mono (Im.kb k06 hbe)).mono fun b o v h=>h.tr hk8) (ma' h7 hb7X (by intro x hx; unfold Go.Wx.I64; simp at hx; omega) (by simp)) (by intro x hx; simp at hx; omega) (by rw [hpre]; omega) (pt be);rw [hpre] at hnum;refine ab' hnum ?_;rintro e w9 ⟨⟨v9,rfl,hv9⟩,hk9⟩;have hv9:SV rU8 (Im X w9) _ v9:=hv9.mono fun b o v h=>Im.of_new hX8 h;obtain ⟨a9,c9,rfl,_,_⟩:=id hv9;have k69:=hk8.tr hk9;have hJ9:EraC (Im X w9) w9 be B n6 va:=(hJ6.mono fun b o v h=>h.tr k69).kp k69 (by simp);obtain ⟨ad,cd,pd,vr,hsr,hvr⟩:=hgs6.drop (k:=ps.length) (by omega);injection pd with q1 q2 q3
  subst q1 q3;obtain ⟨ar,cr,rfl,_,_⟩:=id hvr;refine lb (h13.kp k69 (by simp)) ?_;refine fX' τok rfl x.params.length (.slice ar ((argsT t).drop ps.length).length cr) rfl (by omega) (by rw [hpl]; exact hsr) ?_;obtain ⟨ys,hys⟩:∃ ys,(argsT t).drop ps.length = ys:=⟨_,rfl⟩
  rw [hys] at hvr ha ⊢;have hyl:ys.length = ga.length:=by rw [<- hys,List.length_drop]; omega
  have hysF:∀ y ∈ ys,Ft (QB B) 0 y /\ (row y).length <= g:=fun y hy=>by
   rw [<- hys] at hy;have hy':=List.mem_of_mem_drop hy;have h1:=dU' hy';have h2:=ag' (headT t);exact ⟨ht.args y hy',by omega⟩
  have k09:Kp [be] w w9:=k06.tr k69;obtain ⟨rc,hrc⟩:∃ rc,dO' B g = rc:=⟨_,rfl⟩
  rw [hrc] at ih ha;have hle:∀ t n q,rc t n = some q -> q.2 <= n:=by rw [<- hrc]; exact nt' hB g
  have hbe5:=hXe be hbe;refine lp τok (σ:=Nat × Nat × List Nat × Value) (fun q=>[(0,pt be),(1,q.2.2.2),(14,.slice aks ks.length cks),(124,.slice ar ys.length cr),(125,iV (ys.length:Int)),(126,iV (q.1:Int))])
   (fun q w'=>q.1 <= ys.length /\ q.2.1 <= n6 /\ SV rU8 (Im X w') (l ++ pre ++ q.2.2.1) q.2.2.2 /\ EraC (Im X w') w' be B q.2.1 va /\ Kp [be] w7 w' /\ ∃ rest,fi' rc ((ys.zip ks).drop q.1) q.2.1 = some rest /\ q.2.2.1 ++ rest.1 = a.1 /\ rest.2 = a.2) (fun q=>ys.length - q.1) (0,n6,[],_) rfl ⟨rfl,rfl,rfl,rfl,rfl,rfl,trivial⟩ ⟨KV _,KJ _,by simpa using hv9,hJ9,k69.weak (by simp),a,ha,rfl,rfl⟩ ?_
  rintro ⟨j,m,bs,vv⟩ wa ⟨hj',hm,hV,hJa,k6a,rest,hrest,hba,hra⟩;simp only at hj' hm hV hJa hrest hba;have k0a:Kp [be] w wa:=k06.tq k6a;have hXa:=xU hX k0a;obtain ⟨aV,cV,rfl,_,_⟩:=id hV;refine ac' (fun g5=>?_) (fun g5=>?_)
  ·have g5:(j:Int) < (ys.length:Int):=g5
   obtain ⟨y,hy,_⟩:=af' (l:=ys) (k:=j) (by omega);obtain ⟨bb,hbb,_⟩:=af' (l:=ks) (k:=j) (by omega);obtain ⟨z,hz',hdz⟩:=af' (l:=ys.zip ks) (k:=j) (by simp; omega);have hzz:(ys.zip ks)[j]? = some (y,bb):=by
    rw [List.getElem?_zip_eq_some];exact ⟨hy,hbb⟩
   rw [hzz] at hz';obtain rfl:=JB hz';rw [hdz] at hrest;simp only [fi'] at hrest;obtain ⟨hyF,hyg⟩:=hysF y (JQ hy);obtain ⟨bq,oq,cq,pq,zy,hzy,hzyT⟩:=(hvr.mono (Im.kb k6a hbe)).get hy;injection pq with q1 q2 q3
   subst q1 q3;obtain ⟨azy,czy,rfl,_,_⟩:=id hzyT;refine ix j rfl (by omega) ?_;refine ld (Cl.cell (Im.sub X wa _ _ _ hzy)) ?_;obtain ⟨bk,ok,rfl,hcell⟩:=hsk.at (by omega:j < ks.length)
   obtain ⟨cs',hcs',hcc'⟩:=hcell j bb hbb;have hcs':cs' = [.bool bb]:=hcs';subst hcs';have hcl:=hcc' 0 _ rfl;refine ix j rfl (by omega) ?_;refine ld (Cl.cell ((New.sub _ _ _ _ _ hcl).kp k6a (by have:=hcl.1; simp; omega))) ?_;cases bb with
   | true =>
    rw [if_pos rfl] at hrest;obtain ⟨p,hp,hrest⟩:=Option.bind_eq_some_iff.1 hrest;obtain ⟨p2,hp2,rfl⟩:=Option.map_eq_some_iff.1 hrest;simp only at hba hra;have hpn:=hle _ _ _ hp;have hbl:((l ++ pre ++ bs) ++ p.1).length <= 500000000:=by
     rw [<- hba] at hql;simp only [JK] at hql ⊢;omega
    refine ab' (ih hXa hbe hJa (by omega) hyF hyg hzyT hV hp hbl) ?_;rintro e wb ⟨⟨vb,rfl,hvb,hJb'⟩,hkb⟩;have ob:=hvb.one;refine i6 ?_;refine ⟨(j + 1,p.2,bs ++ p.1,vb),by simp only; omega,rfl,⟨rfl,rfl,rfl,rfl,rfl,rfl,trivial⟩,by show j + 1 <= ys.length; omega,by simp only; omega,?_,hJb',k6a.tq hkb,p2,hp2,?_,hra⟩
    ·simp only
     rw [<- List.append_assoc];exact hvb
    ·simp only
     rw [List.append_assoc];exact hba
   | false =>
    rw [if_neg (by decide)] at hrest;refine i6 ?_;exact ⟨(j + 1,m,bs,_),by simp only; omega,rfl,⟨rfl,rfl,rfl,rfl,rfl,rfl,trivial⟩,by show j + 1 <= ys.length; omega,hm,hV,hJa,k6a,rest,hrest,hba,hra⟩
  have g5:¬ (j:Int) < (ys.length:Int):=g5;rw [JY (by simp; omega)] at hrest;simp only [fi'] at hrest;obtain rfl:=JB hrest;simp only [JD] at hba hra;subst hba hra;exact ⟨⟨_,rfl,by rw [<- List.append_assoc]; exact hV,hJa⟩,k0a⟩
end
section
variable {B:BoT} {X:List Nat} {w:World}
theorem qz' (hB:GoodB B) {bj n:Nat} {va:Value} (hX:XL X w) (hbj:bj ∈ X) (hJ:EraC (Im X w) w bj B n va) (hn:n <= 100000) {t:Tr} (ht:Ft (QB B) 0 t) {v v0:Value} {b1 b2:Nat} {T1:Nat} (hb2:b2 ∈ X) (hne:b2 ≠ bj)
  (h1:Bk w.heap b1 [v] T1) (h2:Bk w.heap b2 [v0] 40) (hv:TmV (Im X w) t v) {q:List Nat × Nat} (hq:dO' B GE t n = some q) (hl:q.1.length <= 65536) :
  CC 24 #[pt bj,pt b1,pt b2] w (fun e w'=>oj' (.ok q:Except Int (List Nat × Nat)) (fun q=>(∃ v,e = .returned v) /\ (∃ u,Bk w'.heap b2 [u] 40 /\ SV rU8 (Im X w') q.1 u) /\ (∃ va,EraC (Im X w') w' bj B q.2 va) /\ Kp [bj,b2] w w') (fun er=>e = .panicked (kN' er) /\ Kp [bj] w w')):=by
 refine oF Tryz.func24 ?_;obtain ⟨_,_,rfl,_,_⟩:=id hv;refine cO (args:=[_,_,_]) 11 [] τok Tryz.func24 ?_;refine lb h1 ?_;have hGE:=us';have hlen:=ht.len;refine ab' (ux' hB va GE (l:=[]) hX hbj hJ hn ht (by omega) hv (SV.nil _ _) hq (by simp; omega)) ?_;rintro e w1 ⟨⟨u,rfl,hu,hJ1⟩,hk1⟩;rw [List.nil_append] at hu;obtain ⟨au,cu,rfl,_,_⟩:=id hu;refine st (b:=b2) (o:=0) (h2.kp hk1 (by simpa using hne)) (by simp) rfl fun w3 h3' hs3 hk3=>?_;have up3:=Im.kb hk3 hb2;refine lb h3' ?_;refine bE' (p:=(65536:Int) < (q.1.length:Int)) (by omega) ?_;exact ⟨⟨_,rfl⟩,⟨_,h3',hu.mono up3⟩,⟨va,(hJ1.mono up3).kp hk3 (by simpa using Ne.symm hne)⟩,(hk1.weak (Y:=[bj,b2]) (by simp)).trans hk3 fun x hx _=>by simp at hx; simp [hx]⟩
end
def CodR (X:List Nat) (w:World) (q:List Nat × Nat) (e:Ending) (w':World):Prop :=
 (∃ u,e = .returned (.tuple #[u,iV (q.2:Int),iV 0]) /\ SV rU8 (Im X w') q.1 u) /\ Kp [] w w'
section
variable {B:BoT} {X:List Nat} {w:World} {t:List Nd}
theorem nu' (hX:XL X w) {fuel:Int} {vb v:Value} (hb:BoV (Im X w) B vb) (hv:SV rNd (Im X w) t v) (hfit:bG' B [] t = 0) {q:List Nat × Nat} (hq:dO' B GE (tr t) (aI' fuel) = some q) (hql:q.1.length <= 65536) :
  CC 10 #[vb,v,iV fuel] w (CodR X w q):=by
 refine oF Tryz.func10 ?_;obtain ⟨hB,hr,hl,hce,hcx,hte,hft⟩:=ju' hfit;have hbf:bg' B 0 t = 0:=by
  unfold bG' at hfit;rw [if_neg (by rw [hr]; exact fun h=>h rfl),if_neg (by simp),if_neg (by simp [cN'])] at hfit;exact hfit
 have hbb:=hb;obtain ⟨v1,v2,v3,rfl,_,_,_⟩:=hbb;obtain ⟨av,cv,rfl,_,_⟩:=id hv;refine cO (args:=[_,_,_]) 29 [.tmp 6,.tmp 7,.tmp 8] τok Tryz.func10 ?_;refine new fun b4 w1 hb4 h4 hs1 hk1=>?_;have h4:Bk w1.heap b4 [iV B.vars,v1,v2,iV B.nat,v3] 26:=h4;refine new fun b6 w3 hb6 h6 hs3 hk3=>?_;have h6:Bk w3.heap b6 [.slice av t.length cv] 29:=h6;have k03:=hk1.tr hk3;have h4:=h4.kp hk3 (by simp);have up3:∀ b o v,Im X w b o v -> Im X w3 b o v:=fun b o v h=>h.tr k03;refine ldN [iV B.vars,v1,v2,iV B.nat,v3] rfl (bZ h4) ?_;refine lb h6 ?_;refine ab' (fc' (Im.sub X w3) (fun _ _ _ h=>h.hold) (hb.mono up3) (hv.mono up3) (below:=0) (by unfold I64; omega)) ?_;rintro e w4 ⟨rfl,hk4⟩;have k04:=k03.tr hk4;rw [hbf];have hnew:w.heap.size <= b4 /\ b4 < b6 /\ b6 < w4.heap.size:=by
  have:=hk1.size;have:=hk3.size;have:=hk4.size;have:=h6.lt;omega
 refine new fun b12 w5 hb12 h12 hs5 hk5=>?_;have h12:Bk w5.heap b12 [.slice none 0 0] 40:=h12;have k35:=hk4.tr hk5;have k05:=k03.tr k35;have h4:=h4.kp k35 (by simp);have h6:=h6.kp k35 (by simp);refine ldN [iV B.vars,v1,v2,iV B.nat,v3] rfl (bZ h4) ?_;have hX5:∀ b ∈ b12 :: X,b < w5.heap.size:=fun b hb=>by
  rcases List.mem_cons.1 hb with rfl | hb
  ·exact h12.lt
  ·exact KZ (hX b hb) k05.size
 have up:∀ b o v,Im X w b o v -> Im (b12 :: X) w5 b o v:=fun b o v h=>(Im.more (X:=X) (Y:=b12 :: X) (fun y hy=>by
  rcases List.mem_cons.1 hy with rfl | hy
  ·exact .inr (by omega)
  ·exact .inl hy) h).tr k05
 have hcl':=ee' fuel;have hlk:=lW' (B:=B) (X:=b12 :: X) (w:=w5) (fid:=24) (caps:=#[pt b6,pt b12]) (fuel:=fuel) (Y:=[b12]) (.ok q) (fun X' w' q=>∃ u,Bk w'.heap b12 [u] 40 /\ SV rU8 (Im X' w') q u) hX5 (by simp) (hb.mono up)
  (fun X' w2 w3 q Z k hZ h=>by
   obtain ⟨u,h1,h2⟩:=h;exact ⟨u,h1.kp k fun hm=>(hZ _ hm).2 (by simp),h2.mono fun b o v h=>h.kp k fun y hy _=>(hZ y hy).1⟩)
  (fun X' bj w6 k56 hXX hXn hX6 hbj hbjn hJ=>by
   have upc:∀ b o v,Im (b12 :: X) w5 b o v -> Im X' w6 b o v:=fun b o v h=>(Im.more (Y:=X') (fun y hy=>hXn y hy) h).tr k56;exact qz' (t:=tr t) hB hX6 hbj hJ hcl' hft (hXX b12 (by simp)) (by have:=h12.lt; omega) (h6.kp k56 (by simp)) (h12.kp k56 (by simp)) (by unfold TmV; rw [<- hte]; exact hv.mono fun _ _ _ h=>upc _ _ _ (up _ _ _ h)) hq hql)
 refine ab' hlk ?_;intro e w6 he;obtain ⟨rfl,⟨X',hX',u,hu1,hu2⟩,hk6⟩:=he;have o1:=hu2.one;refine lb hu1 ?_;exact ⟨⟨u,rfl,hu2.mono fun b o v h=>h.less fun y hy=>hX' y (by simp [hy])⟩,k05.trans hk6 fun x hx hl=>by
  simp only [JJ,JZ,or_false] at hx;omega⟩
end
end Go.Proofs.YtmlnlmkmpgkekaaGreat
namespace Go.Proofs.YtmlnlmkmpgkekaaGreat
open Go.Wx Cd Tm Lv
section
variable {C D:Mem} {w:World}
theorem ss' (hS:Sub C w) (hD:Sub D w) (l m:List Nd) (a a':Option Addr) (c c':Nat) (hl:Sl rNd C a l) (hm:Sl rNd D a' m) :
  CC 9 #[.slice a l.length c,.slice a' m.length c'] w (fun e w'=>e = .returned (.bool (decide (l = m))) /\ Kp [] w w'):=by
 refine oF Tryz.func9 ?_;have hlen:=hl.1;obtain ⟨RES,hRES⟩:∃ r,decide (l = m) = r:=⟨_,rfl⟩
 rw [hRES];refine cO (args:=[_,_]) 26 [.tmp 4] τok Tryz.func9 ?_;refine ac' (fun h1=>?_) (fun h1=>?_)
 ·have:¬ l = m:=fun e=>h1 (by rw [e])
  exact ⟨by rw [<- hRES,decide_eq_false this]; rfl,Kp.refl _ _⟩
 have h1:l.length = m.length:=by
  have:(l.length:Int) = m.length:=by simpa using h1
  omega
 refine lp τok (σ:=Nat) (fun k=>[(0,.slice a l.length c),(1,.slice a' m.length c'),(5,iV k)]) (fun k w'=>k <= l.length /\ Kp [] w w' /\ RES = decide (l.drop k = m.drop k)) (fun k=>l.length - k) 0 rfl
  ⟨rfl,rfl,rfl,trivial⟩ ⟨KV _,Kp.refl _ _,hRES.symm⟩ ?_
 rintro k w1 ⟨hk,hkp,hr⟩;refine ac' (fun h=>?_) (fun h=>?_)
 ·have hlt:k < l.length:=by omega
  obtain ⟨x,hx,hd⟩:=af' hlt;obtain ⟨y,hy,hd'⟩:=af' (l:=m) (k:=k) (by omega);rw [hd,hd'] at hr;have hS1:=hS.tr hkp;have hD1:=hD.tr hkp;obtain ⟨b,o,rfl,_,_,_,hc⟩:=dB' hl hx;obtain ⟨b',o',rfl,_,_,_,hc'⟩:=dB' hm hy;refine ov' τok (fun w'=>Kp [] w1 w') (by kernel_rfl) (kQd w1) ?_;refine ix k rfl hlt ?_;refine cB' [iV x.op,iV x.a,iV x.b] rfl (fun j v hj=>hS1 _ _ _ (hc j v hj)) ?_;refine ix k rfl (by omega) ?_;refine cB' [iV y.op,iV y.a,iV y.b] rfl (fun j v hj=>hD1 _ _ _ (hc' j v hj)) ?_;refine qZ' (v:=.bool (!decide (x = y))) (fun w _=>eT' _ _ x y w) ?_;intro w2 hk2;refine br (fun hc=>?_) (fun hc=>?_)
  ·have:x ≠ y:=by simpa using hc
   refine ⟨?_,hkp.tr hk2⟩;rw [hr,decide_eq_false (by simp [this])]
   rfl
  ·have:x = y:=by simpa using hc
   subst this;refine i6 ?_;refine ⟨k + 1,by omega,rfl,⟨rfl,rfl,rfl,trivial⟩,hlt,hkp.tr hk2,?_⟩;rw [hr];simp
 ·refine ⟨?_,hkp⟩
  rw [hr,JY (by omega),JY (by omega)]
  rfl
theorem kX' {C D:Mem} {w:World} (hS:Sub C w) (hD:Sub D w) (l m:List Nat) (a a':Option Addr) (c c':Nat) (hl:Sl rU8 C a l) (hm:Sl rU8 D a' m) :
  CC 12 #[.slice a l.length c,.slice a' m.length c'] w (fun e w'=>e = .returned (.bool (decide (l = m))) /\ Kp [] w w'):=by
 refine oF Tryz.func12 ?_;have hlen:=hl.1;obtain ⟨RES,hRES⟩:∃ r,decide (l = m) = r:=⟨_,rfl⟩
 rw [hRES];refine cO (args:=[_,_]) 26 [.tmp 4] τok Tryz.func12 ?_;refine ac' (fun h1=>?_) (fun h1=>?_)
 ·have:¬ l = m:=fun e=>h1 (by rw [e])
  exact ⟨by rw [<- hRES,decide_eq_false this]; rfl,Kp.refl _ _⟩
 have h1:l.length = m.length:=by
  have:(l.length:Int) = m.length:=by simpa using h1
  omega
 refine lp τok (σ:=Nat) (fun k=>[(0,.slice a l.length c),(1,.slice a' m.length c'),(5,iV k)]) (fun k w'=>k <= l.length /\ Kp [] w w' /\ RES = decide (l.drop k = m.drop k)) (fun k=>l.length - k) 0 rfl
  ⟨rfl,rfl,rfl,trivial⟩ ⟨KV _,Kp.refl _ _,hRES.symm⟩ ?_
 rintro k w1 ⟨hk,hkp,hr⟩;refine ac' (fun h=>?_) (fun h=>?_)
 ·have hlt:k < l.length:=by omega
  obtain ⟨x,hx,hd⟩:=af' hlt;obtain ⟨y,hy,hd'⟩:=af' (l:=m) (k:=k) (by omega);rw [hd,hd'] at hr;obtain ⟨b,o,rfl,hcell,_⟩:=hl.u8 hx;obtain ⟨b',o',rfl,hcell',_⟩:=hm.u8 hy;have hc1:=(hS.tr hkp) _ _ _ hcell;have hc2:=(hD.tr hkp) _ _ _ hcell';refine uM' τok (by kernel_rfl) ?_;refine ix k rfl hlt ?_;refine ldR hc1 ?_;refine ix k rfl (by omega) ?_;refine ldR hc2 ?_;intro m';refine ac' (fun hc=>?_) (fun hc=>?_)
  ·have:x ≠ y:=fun e=>hc (by rw [e])
   refine ⟨?_,hkp.dr _⟩;rw [hr,decide_eq_false (by simp [this])]
   rfl
  ·have:x = y:=by
    have:(x:Int) = y:=by simpa using hc
    omega
   subst this;refine i6 ?_;refine ⟨k + 1,by omega,rfl,⟨rfl,rfl,rfl,trivial⟩,hlt,hkp.dr _,?_⟩;rw [hr];simp
 ·refine ⟨?_,hkp⟩
  rw [hr,JY (by omega),JY (by omega)]
  rfl
end
def vP' (lim:Int):List (List Nd) -> Int -> Int
 | [],a=>a
 | l :: r,a=>if a < lim then vP' lim r (a + 1 + (l.length:Int)) else a
def szC (lim:Int):List CtT -> Int -> Int
 | [],a=>a
 | c :: r,a=>if a < lim then szC lim r (a + 1 + vP' lim c.args 0 + vP' lim c.out 0) else a
def szE (lim:Int):List EnT -> Int -> Int
 | [],a=>a
 | x :: r,a=>if a < lim then szE lim r (szC lim x.ctors (a + 1 + (x.sort.length:Int) + (x.type.length:Int) + (x.body.length:Int) + vP' lim x.params 0 + vP' lim x.indices 0)) else a
def vQ' (B:BoT) (lim:Int):Int:=szE lim B.ents ((B.orders.length:Int) + (B.prims.length:Int))
section
variable {C:Mem} {w:World} {B:BoT}
end
def szX (lim:Int):CxR -> Int -> Int
 | [],a=>a
 | q :: r,a=>if a < lim then szX lim r (a + 1 + (q.1.length:Int) + (q.2.length:Int)) else a
section
variable {C:Mem} {w:World} {B:BoT}
end
structure CaT where
 book:BoT
 ctx:CxR
 term:List Nd
 type:List Nd
 fuel:Int
def CaV (C:Mem) (x:CaT) (v:Value):Prop :=
 ∃ v1 v2 v3 vc vt vy,v = .agg #[iV x.book.vars,v1,v2,iV x.book.nat,v3,vc,vt,vy,iV x.fuel] /\ SV rOr C x.book.orders v1 /\ SV rEn C x.book.ents v2 /\ SV rPr C x.book.prims v3 /\ SV rBd C x.ctx vc /\ SV rNd C x.term vt /\ SV rNd C x.type vy /\ I64 x.fuel
def heavyM (x:CaT):Bool:=decide (2500 <= vQ' x.book 2500) || (decide (1500 <= szX 1500 x.ctx 0) || (decide (300 < x.ctx.length) || (decide (1500 < x.term.length + x.type.length) || decide (300 < x.fuel))))
section
variable {C:Mem} {w:World} {x:CaT}
end
structure CeT where
 book:BoT
 ctx:CxR
 term:List Nd
 fuel:Int
def CeV (C:Mem) (x:CeT) (v:Value):Prop :=
 ∃ v1 v2 v3 vc vt,v = .agg #[iV x.book.vars,v1,v2,iV x.book.nat,v3,vc,vt,iV x.fuel] /\ SV rOr C x.book.orders v1 /\ SV rEn C x.book.ents v2 /\ SV rPr C x.book.prims v3 /\ SV rBd C x.ctx vc /\ SV rNd C x.term vt /\ I64 x.fuel
def wG' (x:CeT):Bool:=decide (2500 <= vQ' x.book 2500) || (decide (1000 <= szX 1000 x.ctx 0) || (decide (300 < x.ctx.length) || (decide (500 < x.term.length) || decide (3000 < x.fuel))))
section
variable {C:Mem} {w:World} {x:CeT}
end
theorem en' {α:Type} {R:Rd α} {C:Mem} {w:World} {b T:Nat} {css:List (List Value)} {l:List α} (hB:Bk w.heap b css.flatten T) (hC:∀ o v,Cl w.heap b o v -> C b o v) (hd:All2 (R.den C) css l) (hl:l.length <= 100):SV R C l (.slice (some ⟨b,0,none⟩) l.length l.length):=by
 refine ⟨_,_,rfl,⟨by omega,.inr ⟨b,0,rfl,fun i x hi=>?_⟩⟩,KJ _⟩;obtain ⟨cs,hcs,hden⟩:=hd.get hi;refine ⟨cs,hden,fun j u hj=>hC _ _ (hB.cl ?_)⟩;rw [KW];refine dS' css (fun c hc=>?_) i j cs u hcs hj;obtain ⟨k,hk⟩:=JH hc;have hkl:=ai' hk;rw [hd.length] at hkl;obtain ⟨c',h1,h2⟩:=hd.get (i:=k) (a:=l[k]'(by omega)) (by simp);rw [hk] at h1;obtain rfl:=JB h1;exact R.len h2
theorem uy' {α:Type} {R:Rd α} {C:Mem} {l:List α} {v:Value} (h:SV R C l v):(rSk R).den C [v] l:=by
 obtain ⟨a,c,rfl,h1,h2⟩:=h;exact ⟨a,c,rfl,h2,h1⟩
def SB:BoT:=⟨0,[],[⟨1,[⟨2,1,1⟩,⟨3,0,0⟩],[],[],[⟨[],[]⟩,⟨[[⟨9,0,0⟩]],[]⟩],[],[]⟩,⟨1,[⟨2,1,1⟩,⟨3,0,0⟩],[],[],[⟨[],[]⟩,⟨[[⟨9,0,0⟩],[⟨9,1,0⟩]],[]⟩],[],[]⟩],0,[]⟩
theorem fj' (w:World) :
  CC 11 #[] w (fun e w'=>(∃ v,e = .returned v /\ BoV (Im [] w') SB v) /\ Kp [] w w'):=by
 refine oF Tryz.func11 ?_;refine cO (args:=[]) 25 [.cell 0 26] τok Tryz.func11 ?_;refine new fun b0 w0 hb0 h0 hs0 hk0=>?_;refine fill [iV 2,iV 1,iV 1,iV 3,iV 0,iV 0] rfl ?_;refine new fun b1 w1 hb1 h1 hs1 hk1=>?_;refine fill [iV 9,iV 0,iV 0] rfl ?_;refine new fun b2 w2 hb2 h2 hs2 hk2=>?_;refine fill [.slice (some ⟨b2,0,none⟩) 1 1] rfl ?_;refine new fun b3 w3 hb3 h3 hs3 hk3=>?_;refine fill [.slice none 0 0,.slice none 0 0,.slice (some ⟨b3,0,none⟩) 1 1,.slice none 0 0] rfl ?_;refine new fun b4 w4 hb4 h4 hs4 hk4=>?_;refine fill [iV 9,iV 0,iV 0] rfl ?_;refine new fun b5 w5 hb5 h5 hs5 hk5=>?_;refine fill [iV 9,iV 1,iV 0] rfl ?_;refine new fun b6 w6 hb6 h6 hs6 hk6=>?_;refine fill [.slice (some ⟨b5,0,none⟩) 1 1,.slice (some ⟨b6,0,none⟩) 1 1] rfl ?_;refine new fun b7 w7 hb7 h7 hs7 hk7=>?_;refine fill [.slice none 0 0,.slice none 0 0,.slice (some ⟨b7,0,none⟩) 2 2,.slice none 0 0] rfl ?_;refine new fun b8 w8 hb8 h8 hs8 hk8=>?_;refine fill [iV 1,.slice (some ⟨b1,0,none⟩) 2 2,.slice none 0 0,.slice none 0 0,.slice (some ⟨b4,0,none⟩) 2 2,.slice none 0 0,.slice none 0 0,iV 1,.slice (some ⟨b1,0,none⟩) 2 2,.slice none 0 0,.slice none 0 0,.slice (some ⟨b8,0,none⟩) 2 2,.slice none 0 0,.slice none 0 0] (by kernel_rfl) ?_;refine new fun b9 w9 hb9 h9 hs9 hk9=>?_;have k89:=hk9;have k79:=hk8.tr k89;have k69:=hk7.tr k79;have k59:=hk6.tr k69;have k49:=hk5.tr k59;have k39:=hk4.tr k49;have k29:=hk3.tr k39;have k19:=hk2.tr k29;have k09:=hk1.tr k19;refine stN (vs:=[iV 0,.slice none 0 0,.slice (some ⟨b9,0,none⟩) 2 2,iV 0,.slice none 0 0]) (h0.kp k09 (by simp)) rfl (by simp [Value.oneCell']) fun wA hA hsA hkA=>?_;refine ll' τok rfl [iV 0,.slice none 0 0,.slice (some ⟨b9,0,none⟩) 2 2,iV 0,.slice none 0 0] rfl (fun j v hj=>by have:=hA.cl hj; exact this) ?_;have l0:=h0.lt;have lo:∀ {u:World} {b:Nat},Kp [] w0 u -> b = u.heap.size -> b ∉ [b0]:=fun k hb=>by
  have:=k.size;simp;omega
 have g1:=(h1.kp k19 (by simp)).kp hkA (lo (Kp.refl _ _) hb1);have g2:=(h2.kp k29 (by simp)).kp hkA (lo hk1 hb2);have g3:=(h3.kp k39 (by simp)).kp hkA (lo (hk1.tr hk2) hb3);have g4:=(h4.kp k49 (by simp)).kp hkA (lo ((hk1.tr hk2).tr hk3) hb4);have g5:=(h5.kp k59 (by simp)).kp hkA (lo (((hk1.tr hk2).tr hk3).tr hk4) hb5);have g6:=(h6.kp k69 (by simp)).kp hkA (lo ((((hk1.tr hk2).tr hk3).tr hk4).tr hk5) hb6);have g7:=(h7.kp k79 (by simp)).kp hkA (lo (((((hk1.tr hk2).tr hk3).tr hk4).tr hk5).tr hk6) hb7);have g8:=(h8.kp k89 (by simp)).kp hkA (lo ((((((hk1.tr hk2).tr hk3).tr hk4).tr hk5).tr hk6).tr hk7) hb8);have g9:=h9.kp hkA (lo (((((((hk1.tr hk2).tr hk3).tr hk4).tr hk5).tr hk6).tr hk7).tr hk8) hb9);have cC:∀ b o v,Cl wA.heap b o v -> Im [] wA b o v:=fun _ _ _ h=>⟨h,by simp⟩
 have iN:∀ i:Int,0 <= i -> i <= 100 -> I64 i:=fun i h h2=>by unfold I64; omega
 have s1:SV rNd (Im [] wA) [⟨2,1,1⟩,⟨3,0,0⟩] (.slice (some ⟨b1,0,none⟩) 2 2):=en' (css:=[[iV 2,iV 1,iV 1],[iV 3,iV 0,iV 0]]) g1 (cC _) ⟨⟨rfl,iN _ (by decide) (by decide),iN _ (by decide) (by decide),iN _ (by decide) (by decide)⟩,⟨rfl,iN _ (by decide) (by decide),iN _ (by decide) (by decide),iN _ (by decide) (by decide)⟩,trivial⟩ (by simp);have s2:SV rNd (Im [] wA) [⟨9,0,0⟩] (.slice (some ⟨b2,0,none⟩) 1 1):=en' (css:=[[iV 9,iV 0,iV 0]]) g2 (cC _) ⟨⟨rfl,iN _ (by decide) (by decide),iN _ (by decide) (by decide),iN _ (by decide) (by decide)⟩,trivial⟩ (by simp);have s5:SV rNd (Im [] wA) [⟨9,0,0⟩] (.slice (some ⟨b5,0,none⟩) 1 1):=en' (css:=[[iV 9,iV 0,iV 0]]) g5 (cC _) ⟨⟨rfl,iN _ (by decide) (by decide),iN _ (by decide) (by decide),iN _ (by decide) (by decide)⟩,trivial⟩ (by simp);have s6:SV rNd (Im [] wA) [⟨9,1,0⟩] (.slice (some ⟨b6,0,none⟩) 1 1):=en' (css:=[[iV 9,iV 1,iV 0]]) g6 (cC _) ⟨⟨rfl,iN _ (by decide) (by decide),iN _ (by decide) (by decide),iN _ (by decide) (by decide)⟩,trivial⟩ (by simp);have s3:SV (rSk rNd) (Im [] wA) [[⟨9,0,0⟩]] (.slice (some ⟨b3,0,none⟩) 1 1):=en' (css:=[[_]]) g3 (cC _) ⟨uy' s2,trivial⟩ (by simp);have s7:SV (rSk rNd) (Im [] wA) [[⟨9,0,0⟩],[⟨9,1,0⟩]] (.slice (some ⟨b7,0,none⟩) 2 2):=en' (css:=[[_],[_]]) g7 (cC _) ⟨uy' s5,uy' s6,trivial⟩ (by simp);have s4:SV rCt (Im [] wA) [⟨[],[]⟩,⟨[[⟨9,0,0⟩]],[]⟩] (.slice (some ⟨b4,0,none⟩) 2 2):=en' (css:=[[_,_],[_,_]]) g4 (cC _) ⟨⟨_,_,rfl,SV.nil _ _,SV.nil _ _⟩,⟨_,_,rfl,s3,SV.nil _ _⟩,trivial⟩ (by simp);have s8:SV rCt (Im [] wA) [⟨[],[]⟩,⟨[[⟨9,0,0⟩],[⟨9,1,0⟩]],[]⟩] (.slice (some ⟨b8,0,none⟩) 2 2):=en' (css:=[[_,_],[_,_]]) g8 (cC _) ⟨⟨_,_,rfl,SV.nil _ _,SV.nil _ _⟩,⟨_,_,rfl,s7,SV.nil _ _⟩,trivial⟩ (by simp);have s9:SV rEn (Im [] wA) SB.ents (.slice (some ⟨b9,0,none⟩) 2 2):=en' (css:=[[_,_,_,_,_,_,_],[_,_,_,_,_,_,_]]) g9 (cC _) ⟨⟨_,_,_,_,_,_,rfl,iN _ (by decide) (by decide),s1,SV.nil _ _,SV.nil _ _,s4,SV.nil _ _,SV.nil _ _⟩,⟨_,_,_,_,_,_,rfl,iN _ (by decide) (by decide),s1,SV.nil _ _,SV.nil _ _,s8,SV.nil _ _,SV.nil _ _⟩,trivial⟩ (by simp [SB]);refine ⟨⟨_,rfl,_,_,_,rfl,SV.nil _ _,s9,SV.nil _ _⟩,(hk0.tr k09).trans hkA fun x hx hl=>?_⟩;simp only [JJ,JZ,or_false] at hx;omega
end Go.Proofs.YtmlnlmkmpgkekaaGreat
