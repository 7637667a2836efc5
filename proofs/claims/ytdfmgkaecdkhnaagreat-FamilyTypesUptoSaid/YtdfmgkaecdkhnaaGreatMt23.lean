import Derived.Test.YtdfmgkaecdkhnaaGreatMt22
set_option linter.unusedVariables false
set_option linter.unusedSimpArgs false
set_option maxRecDepth 100000
set_option maxHeartbeats 4000000
namespace Go.Proofs.YtdfmgkaecdkhnaaGreat
open Go.Wx Cd Tm Lv
def AlR (w':World) (bl:Nat) (B:BoT) (en:Int) (r:Except Int (Unit × Nat)):Prop:=mA' r (fun q=>LkC (Im [bl] w') w' bl B en q.2 0) (fun e'=>e' ≠ 0 /\ LkC (Im [bl] w') w' bl B en 0 e')
theorem nV' {B:BoT} {e:Int}:∀ (l:List Tr) (cx:Ctx) (n:Nat) (q:Ctx × Nat),CxOk B cx -> (∀ (i:Nat) y,l[i]? = some y -> Ft (QB B) ((cx.length + i:Nat):Int) y) -> fV' B e l cx n = .ok q -> CxOk B q.1
 | [],cx,n,q,hc,hl,h=>by cases h; exact hc
 | a :: r,cx,n,q,hc,hl,h=>by
  obtain ⟨p,_,h⟩:=an' h;split at h
  ·cases h
  split at h
  ·cases h
  refine nV' r _ _ q (hc.snoc (hl 0 a rfl) (by simp)) (fun i y hy=>?_) h;have:=hl (i + 1) y (by simpa using hy)
  rwa [show (cx ++ [(a,(none:Option Tr))]).length + i = cx.length + (i + 1) by simp; omega]
theorem qU' {B:BoT}:∀ (l:List Tr) (cx:Ctx) (n:Nat) (q:Ctx × Nat),CxOk B cx -> (∀ (i:Nat) y,l[i]? = some y -> Ft (QB B) ((cx.length + i:Nat):Int) y) -> kk' B l cx n = .ok q -> CxOk B q.1
 | [],cx,n,q,hc,hl,h=>by cases h; exact hc
 | a :: r,cx,n,q,hc,hl,h=>by
  obtain ⟨p,_,h⟩:=an' h;refine qU' r _ _ q (hc.snoc (hl 0 a rfl) (by simp)) (fun i y hy=>?_) h;have:=hl (i + 1) y (by simpa using hy)
  rwa [show (cx ++ [(a,(none:Option Tr))]).length + i = cx.length + (i + 1) by simp; omega]
section
variable {w:World} {bl:Nat} {B:BoT} {en:Int}
theorem jh' {Y:List Nat} {w wn:World} (k:Kp [bl] w wn) (hbl:bl ∈ Y) (hY:∀ y ∈ Y,y = bl \/ w.heap.size <= y) {b o:Nat} {v:Value} (h:Im [bl] w b o v):Im Y wn b o v :=
 Im.kp k (fun y hy _ => by obtain rfl : y = bl := by simpa using hy
                           exact hbl) (Im.more (fun y hy=>(hY y hy).imp (fun h=>by simp [h]) id) h)
theorem LkC.less {X Y:List Nat} {w:World} {n:Nat} {er:Int} (h:LkC (Im X w) w bl B en n er) (hY:∀ y ∈ Y,y ∈ X):LkC (Im Y w) w bl B en n er:=h.mono fun _ _ _ h=>h.less hY
theorem LkC.more {X Y:List Nat} {w w':World} {n:Nat} {er:Int} (h:LkC (Im X w) w bl B en n er) (hY:∀ y ∈ Y,y ∈ X \/ w.heap.size <= y) (k:Kp [] w w'):LkC (Im Y w') w' bl B en n er:=(h.mono fun _ _ _ h=>Im.more hY h).tr k
theorem TlC.more {X Y:List Nat} {w w':World} {bt:Nat} {cx:Ctx} (h:TlC (Im X w) w bt bl cx) (hY:∀ y ∈ Y,y ∈ X \/ w.heap.size <= y) (k:Kp [] w w'):TlC (Im Y w') w' bt bl cx:=(h.mono fun _ _ _ h=>Im.more hY h).tr k
theorem uR' (hf:az' B en = 0) {n0:Nat} (hL:LkC (Im [bl] w) w bl B en n0 0) :
  CC 14 #[pt bl] w (fun e w'=>(∃ v,e = .returned v) /\ AlR w' bl B en (vp' B en n0) /\ Kp [bl] w w'):=by
 refine oF Tryz.func14 ?_;obtain ⟨RES,hRES⟩:∃ r,vp' B en n0 = r:=⟨_,rfl⟩
 rw [hRES];unfold vp' at hRES;obtain ⟨hR,hB,h0,h1,hx,s,ps,qi,hF⟩:=dD' hf;have hi:((en.toNat:Nat):Int) = en:=by omega
 obtain ⟨e1,e2,e3⟩:=hF.ps_eq hx;rw [hi] at e1 e2 e3;rw [e1,e2,e3] at hRES;have hlp:=hF.lp;have hli:=hF.li;have hlc:=hF.lc;have hsF:Ft (QB B) 0 s:=hF.fs.wk fun m hm=>dW' (Nat.le_of_lt (ak' hx)) hm;have hpF:∀ (i:Nat) y,ps[i]? = some y -> Ft (QB B) (i:Int) y:=fun i y hy=>hF.up_p hB hx hy;have hqF:∀ (i:Nat) y,qi[i]? = some y -> Ft (QB B) ((ps.length + i:Nat):Int) y:=fun i y hy=>hF.up_i hB hx hy;have hnp:(entD B en).params.length <= 16 /\ (entD B en).indices.length <= 16:=by
  rw [hF.params,hF.indices];simp;omega
 have hbl:=hL;obtain ⟨v1,v2,v3,hl,hO,hE,hP⟩:=hL;obtain ⟨be,oe,ce,rfl,u1,u2,u3,u4,u5,u6,hcs,s1,s2,s3,s4,s5,s6⟩:=eP' (e:=en) hE h0 h1;have hone:=gJ' s1 s2 s3 s4 s5 s6;have hEn:EnV (Im [bl] w) (entD B en) (.agg #[iV (entD B en).kind,u1,u2,u3,u4,u5,u6]):=⟨_,_,_,_,_,_,rfl,s1,s2,s3,s4,s5,s6⟩
 have s1':=s1;rw [hF.sort] at s1';have s1':TmV (Im [bl] w) s u1:=s1';obtain ⟨asr,csr,rfl,_,_⟩:=id s1';have s2':=s2;rw [hF.params] at s2';have s2':=TmsV.sv.2 s2';obtain ⟨ap,cp,rfl,_,_⟩:=id s2';have s3':=s3;rw [hF.indices] at s3';have s3':=TmsV.sv.2 s3';obtain ⟨aq,cq,rfl,_,_⟩:=id s3';obtain ⟨ac,cc,rfl⟩:=s4.len;refine cO (args:=[_]) 91 [] τok Tryz.func14 ?_;refine aw' τok (fun z=>Kp [] w z) ?_;refine rV τok (rg 0 11) 2 (mR 13 11) (kQd w) ?_;refine lk hl ?_;refine lk hl ?_;refine ix en.toNat (by omega) (by omega) ?_;refine dG' [iV (entD B en).kind,.slice asr (row s).length csr,.slice ap ps.length cp,.slice aq qi.length cq,.slice ac (entD B en).ctors.length cc,u5,u6] rfl (fun j u hj=>(hcs j u hj).1) ?_;refine nV τok 11 1 (mR 13 12) ?_;refine new fun b2 w1 hb2 h2 hs1 hk1=>?_;have hk1:Kp [] w w1:=hk1.rd;have hb2:b2 = w.heap.size:=hb2;refine ⟨.inl hk1,?_⟩;refine nV τok 12 0 (mR 13 13) ?_;refine stN (vs:=[iV (entD B en).kind,.slice asr (row s).length csr,.slice ap ps.length cp,.slice aq qi.length cq,.slice ac (entD B en).ctors.length cc,u5,u6]) h2 rfl hone fun w2 h2 hs2 hk2=>?_;have k02:Kp [] w w2:=hk1.newSt hb2 hk2;refine ⟨.inr (by kernel_rfl),?_⟩;refine dV ?_;have hL2:=hbl.tr k02;have hbw:=hl.lt;have hX2:∀ b ∈ [bl],b < w2.heap.size:=fun b hb=>by
  obtain rfl:b = bl:=by simpa using hb
  exact KZ hbw k02.size
 obtain ⟨w1',w2',w3',hl2,hO2,hE2,hP2⟩:=id hL2;have hs2':TmV (Im [bl] w2) s (.slice asr (row s).length csr):=s1'.mono fun _ _ _ h=>h.tr k02;refine aw' τok (fun z=>Kp [] w2 z) ?_;refine rV τok (rg 0 10) 8 (mR 18 10) (kQd w2) ?_;refine dG' [iV B.vars,w1',w2',iV B.nat,w3'] rfl (fun j u hj=>by
  refine hl2.cl ?_;rw [KW]
  match j,hj with
  | 0,hj=>exact hj
  | 1,hj=>exact hj
  | 2,hj=>exact hj
  | 3,hj=>exact hj
  | 4,hj=>exact hj
  | j + 5,hj=>cases hj) ?_
 refine lk h2 ?_;refine lk hl2 ?_;refine nV τok 10 7 (mR 18 11) ?_;refine ab' (uI' (w:=(dr w2)) (X:=[bl]) (cx:=[]) (fuel:=(n0:Int)) hB (fun i q hq=>by simp at hq) (by simp) hX2 hsF ⟨w1',w2',w3',rfl,hO2,hE2,hP2⟩ (SV.nil _ _) hs2') ?_;rintro e w3 ⟨he,hk3⟩;have hk3:Kp [] w2 w3:=hk3.rd;have k03:=k02.tr hk3;have h2:=h2.kp hk3 (by simp);have hL3:=hL2.tr hk3;have hb2n:b2 ≠ bl:=by omega
 have fin:∀ {wn:World} {X:List Nat} {n:Nat} {er:Int},bl ∈ X -> LkC (Im X wn) wn bl B en n er -> LkC (Im [bl] wn) wn bl B en n er:=fun hb h=>h.less fun y hy=>by
  obtain rfl:y = bl:=by simpa using hy
  exact hb
 cases ht:fS' B [] s (n0:Int) with
 | error er =>
  rw [ht] at he hRES;have hRES:.error er = RES:=hRES;subst hRES;obtain rfl:=he;have her:er ≠ 0:=(bS' hB GJ).er _ _ _ _ ht;refine ⟨.inl hk3,?_⟩;refine rV τok (rg 11 7) 0 (mR 18 18) hk3 ?_;refine dV ?_;refine new fun b6 w4 hb6 h6 hs4 hk4=>?_;refine ab' (ip' (X:=[bl]) (hL3.tr hk4) (by simp) 0 er) ?_;rintro r w5 ⟨rfl,hL5,k45⟩;refine eG' (fun h=>absurd h her) (fun _=>?_);exact ⟨⟨_,rfl⟩,⟨her,hL5⟩,((k03.tr hk4).weak (by simp)).tq k45⟩
 | ok q =>
 rw [ht] at he hRES;have hRES:(bdJ (kk' B ps [] q.2) fun cp n=>bdJ (kk' B qi cp n) fun _ n=>dM' B en cp (entD B en).ctors n) = RES:=hRES;obtain ⟨ut,rfl,hut⟩:=he;obtain ⟨aut,cut,rfl,_,_⟩:=id hut;refine ⟨.inl hk3,?_⟩;refine rV τok (rg 11 7) 0 (mR 18 18) hk3 ?_;refine dV ?_;refine new fun b6 w4 hb6 h6 hs4 hk4=>?_;have h6:Bk w4.heap b6 [pt bl,.slice none 0 0] 71:=h6;have l3:=k03.size;have l2:=k02.size;have hs2b:w.heap.size < w2.heap.size:=by
  have:=h2.lt;have:=hk1.size;omega
 have l23:=hk3.size;have hL4:LkC (Im [b6,bl] w4) w4 bl B en n0 0:=hL3.more (fun y hy=>by simp at hy; rcases hy with rfl | rfl; exact .inr (by omega); exact .inl (by simp)) hk4;have k04:=k03.tr hk4;refine ab' (ip' hL4 (by simp) q.2 0) ?_;rintro r w5 ⟨rfl,hL5,k45⟩;have k05:Kp [bl] w w5:=(k04.weak (by simp)).tq k45;have h65:=h6.kp k45 (by simp; omega);have h25:=(h2.kp hk4 (by simp)).kp k45 (by simp; omega);have hT5:TlC (Im [b6,bl] w5) w5 b6 bl []:=⟨_,h65,SV.nil _ _⟩
 have l5:=k05.size;have hb6l:=h65.lt;have hX5:∀ b ∈ [b6,bl],b < w5.heap.size:=fun b hb=>by
  simp at hb;rcases hb with rfl | rfl
  ·exact hb6l
  ·omega
 have hY6:∀ y ∈ [b6,bl],y = bl \/ w.heap.size <= y:=fun y hy=>by
  simp at hy;rcases hy with rfl | rfl
  ·exact .inr (by omega)
  ·exact .inl rfl
 have hp5:TmsV (Im [b6,bl] w5) ps (.slice ap ps.length cp):=s2'.mono fun _ _ _ h=>jh' k05 (by simp) hY6 h;refine lb h25 ?_;refine ab' (qR' hB (cx0:=[]) (n0:=q.2) (ys:=ps) (fun i q hq=>by simp at hq) (by simp; omega) hX5 (by simp) (by simp) (by omega) hL5 hT5 (fun i y hy=>by simpa using hpF i y hy) hp5) ?_;rintro e w6 ⟨he,k56⟩;have k06:Kp [bl] w w6:=k05.trans k56 fun x hx hl=>by
  simp at hx;rcases hx with rfl | rfl
  ·simp
  ·omega
 have h26:=h25.kp k56 (by simp; omega);cases hA:kk' B ps [] q.2 with
 | error er =>
  rw [hA] at he hRES;have hRES:.error er = RES:=hRES;subst hRES;obtain ⟨rfl,her,hL6⟩:=he;exact ⟨⟨_,rfl⟩,⟨her,fin (by simp) hL6⟩,k06⟩
 | ok q2 =>
 obtain ⟨cp0,n2⟩:=q2;rw [hA] at he hRES;have hRES:(bdJ (kk' B qi cp0 n2) fun _ n=>dM' B en cp0 (entD B en).ctors n) = RES:=hRES;obtain ⟨rfl,hL6,hT6⟩:=he;have hcp:CxOk B cp0:=qU' ps [] q.2 (cp0,n2) (fun i q hq=>by simp at hq) (fun i y hy=>by simpa using hpF i y hy) hA;have hcl:cp0.length = ps.length:=by
  have:=mD' _ _ _ _ hA;simp only [List.nil_append] at this;rw [this];simp
 obtain ⟨_,ht6,hc6⟩:=id hT6;obtain ⟨a6,c6,rfl,_,_⟩:=id hc6;refine lb ht6 ?_;refine new fun b7 w7 hb7 h7 hs7 hk7=>?_;have h7:Bk w7.heap b7 [pt bl,(.slice a6 (cp0.map bdR).length c6)] 71:=h7;have k07:=k06.tr hk7;have l6:=k06.size;have hb6l6:=ht6.lt;have hL7:LkC (Im [b7,b6,bl] w7) w7 bl B en n2 0:=hL6.more (fun y hy=>by simp at hy; rcases hy with rfl | rfl | rfl; exact .inr (by omega); exact .inl (by simp); exact .inl (by simp)) hk7;have hT67:TlC (Im [b7,b6,bl] w7) w7 b6 bl cp0:=hT6.more (fun y hy=>by simp at hy; rcases hy with rfl | rfl | rfl; exact .inr (by omega); exact .inl (by simp); exact .inl (by simp)) hk7;have hT7:TlC (Im [b7,b6,bl] w7) w7 b7 bl cp0:=by
  obtain ⟨vc7,ht7,hc7⟩:=hT67;have:vc7 = (.slice a6 (cp0.map bdR).length c6):=by
   have e:=(ht6.kp hk7 (by simp)).symm.trans ht7
   simpa using e.symm
  subst this;exact ⟨_,h7,hc7⟩
 have hb7l:=h7.lt;have hX7:∀ b ∈ [b7,b6,bl],b < w7.heap.size:=fun b hb=>by
  have:=hk7.size;simp at hb;rcases hb with rfl | rfl | rfl
  ·exact hb7l
  ·omega
  ·omega
 have hY7:∀ y ∈ [b7,b6,bl],y = bl \/ w.heap.size <= y:=fun y hy=>by
  simp at hy;rcases hy with rfl | rfl | rfl
  ·exact .inr (by omega)
  ·exact .inr (by omega)
  ·exact .inl rfl
 have hq7:TmsV (Im [b7,b6,bl] w7) qi (.slice aq qi.length cq):=s3'.mono fun _ _ _ h=>jh' k07 (by simp) hY7 h;have h27:=h26.kp hk7 (by simp);refine lb h27 ?_;refine ab' (qR' hB (cx0:=cp0) (n0:=n2) (ys:=qi) hcp (by omega) hX7 (by simp) (by simp) (by omega) hL7 hT7 (fun i y hy=>by rw [hcl]; exact hqF i y hy) hq7) ?_;rintro e w8 ⟨he,k78⟩;have k08:Kp [bl] w w8:=k07.trans k78 fun x hx hl=>by
  simp at hx;rcases hx with rfl | rfl
  ·simp
  ·omega
 have h28:=h27.kp k78 (by simp; omega);cases hI:kk' B qi cp0 n2 with
 | error er =>
  rw [hI] at he hRES;have hRES:.error er = RES:=hRES;subst hRES;obtain ⟨rfl,her,hL8⟩:=he;exact ⟨⟨_,rfl⟩,⟨her,fin (by simp) hL8⟩,k08⟩
 | ok q3 =>
 obtain ⟨cq0,n3⟩:=q3;rw [hI] at he hRES;have hRES:dM' B en cp0 (entD B en).ctors n3 = RES:=hRES;obtain ⟨rfl,hL8,_⟩:=he;have hT8:TlC (Im [b6,bl] w8) w8 b6 bl cp0:=((hT67.mono fun b o v h=>Im.kp k78 (fun y hy _=>by simp at hy ⊢; omega) h).kp k78 (by simp; omega)).mono fun _ _ _ h=>h.less fun y hy=>by simp at hy ⊢; omega
 have hL8':LkC (Im [b6,bl] w8) w8 bl B en n3 0:=hL8.less fun y hy=>by simp at hy ⊢; omega
 refine lb h28 ?_;refine loop τok (σ:=Nat × Nat) (fun q=>[(0,pt bl),(2,pt b2),(6,pt b6),(65,.slice ac (entD B en).ctors.length cc),(66,iV ((entD B en).ctors.length:Int)),(67,iV (q.1:Int))])
  (fun q w'=>q.1 <= (entD B en).ctors.length /\ RES = dM' B en cp0 ((entD B en).ctors.drop q.1) q.2 /\ LkC (Im [b6,bl] w') w' bl B en q.2 0 /\ TlC (Im [b6,bl] w') w' b6 bl cp0 /\ Kp [bl] w8 w') (fun q=>(entD B en).ctors.length - q.1) (0,n3) ⟨rfl,rfl,rfl,rfl,rfl,rfl,trivial⟩
  ⟨KV _,hRES.symm,hL8',hT8,Kp.refl _ _⟩ ?_
 rintro ⟨k,n⟩ w9 ⟨hk,hr,hL9,hT9,k89⟩;simp only at hk hr hL9 hT9;have k09:Kp [bl] w w9:=k08.tq k89;refine ac' (fun c=>?_) (fun c=>?_)
 ·have hlt:k < (entD B en).ctors.length:=by
   have:(k:Int) < (entD B en).ctors.length:=c;omega
  obtain ⟨ct,hct,hd⟩:=af' hlt;rw [hd] at hr;simp only [dM'] at hr;obtain ⟨ga,go,hC⟩:=hF.ct k ct hct;have hla:=hC.la;have hlo:=hC.lo;have hgaF:∀ (i:Nat) y,ga[i]? = some y -> Ft (QB B) ((ps.length + i:Nat):Int) y:=fun i y hy=>hC.up_a hx hF.kind hy;have hgoF:∀ y ∈ go,Ft (QB B) ((ps.length + ga.length:Nat):Int) y:=fun y hy=>hC.up_o hx hF.kind hy;have hga:ct.args.map tr = ga:=du' hC.args (fun y hy=>by
   obtain ⟨j,hj⟩:=JH hy;exact (hC.fa j y hj).ok)
  have hgo:ct.out.map tr = go:=du' hC.out (fun y hy=>(hC.fo y hy).ok);have hal:ct.args.length = ga.length:=by rw [hC.args]; simp
  rw [hga,hgo,hal] at hr;obtain ⟨bc,oc,cc',e1,hca⟩:=s4.at hct;injection e1 with e1 _ e2
  subst e1 e2;obtain ⟨va,vo,hccs,hva,hvo⟩:=hH' hca;have hone2:∀ v ∈ [va,vo],v.oneCell' = true:=fun v hv=>by
   simp at hv;rcases hv with rfl | rfl
   ·exact hva.one
   ·exact hvo.one
  have hCt:CtV (Im [bl] w) ct (.agg #[va,vo]):=⟨va,vo,rfl,hva,hvo⟩
  have im9:∀ b o v,Im [bl] w b o v -> Im [bl] w9 b o v:=fun b o v h=>Im.kb k09 (by simp) b o v h;have h29:=h28.kp k89 (by simp; omega);have l9:=k09.size;obtain ⟨_,ht9,hc9⟩:=id hT9;obtain ⟨a9,c9,rfl,_,_⟩:=id hc9;have hb6l9:=ht9.lt;refine ix k rfl hlt ?_;refine ldN [va,vo] rfl (fun j v hj=>(im9 _ _ _ (hccs j v hj)).1) ?_;refine new fun b9 wA hb9 h9 hsA hkA=>?_;refine stN (vs:=[va,vo]) h9 rfl hone2 fun wB h9 hsB hkB=>?_;have k9B:Kp [] w9 wB:=hkA.newSt hb9 hkB;have hTB:=hT9.tr k9B;have htB:=ht9.kp k9B (by simp);refine lb htB ?_;refine new fun b10 wC hb10 h10 hsC hkC=>?_;have h10:Bk wC.heap b10 [pt bl,(.slice a9 (cp0.map bdR).length c9)] 71:=h10;have k9C:=k9B.tr hkC;have k0C:Kp [bl] w wC:=k09.tr k9C;have lB:=k9B.size;have hlA:w9.heap.size <= b9 /\ b9 < b10:=by
   have hb9:b9 = w9.heap.size:=hb9;have hb10:b10 = wB.heap.size:=hb10;have:=h9.lt;omega
  have hLC:LkC (Im [b10,b6,bl] wC) wC bl B en n 0:=(hL9.tr k9B).more (fun y hy=>by simp at hy; rcases hy with rfl | rfl | rfl; exact .inr (by omega); exact .inl (by simp); exact .inl (by simp)) hkC;have hTCb:TlC (Im [b10,b6,bl] wC) wC b6 bl cp0:=hTB.more (fun y hy=>by simp at hy; rcases hy with rfl | rfl | rfl; exact .inr (by omega); exact .inl (by simp); exact .inl (by simp)) hkC;have hTC:TlC (Im [b10,b6,bl] wC) wC b10 bl cp0:=by
   obtain ⟨vc7,ht7,hc7⟩:=id hTCb;have:vc7 = (.slice a9 (cp0.map bdR).length c9):=by
    have e:=(htB.kp hkC (by simp)).symm.trans ht7
    simpa using e.symm
   subst this;exact ⟨_,h10,hc7⟩
  have hb10l:=h10.lt;have lC:=k9C.size;have hXC:∀ b ∈ [b10,b6,bl],b < wC.heap.size:=fun b hb=>by
   simp at hb;rcases hb with rfl | rfl | rfl
   ·exact hb10l
   ·omega
   ·omega
  have hYC:∀ y ∈ [b10,b6,bl],y = bl \/ w.heap.size <= y:=fun y hy=>by
   simp at hy;rcases hy with rfl | rfl | rfl
   ·exact .inr (by omega)
   ·exact .inr (by omega)
   ·exact .inl rfl
  have h2C:=h29.kp k9C (by simp);have h9C:=h9.kp hkC (by simp);have hEC:EnV (Im [b10,b6,bl] wC) (entD B en) (.agg #[iV (entD B en).kind,.slice asr (row s).length csr,.slice ap ps.length cp,.slice aq qi.length cq,.slice (some ⟨bc,oc,none⟩) (entD B en).ctors.length cc,u5,u6]):=hEn.mono fun _ _ _ h=>jh' k0C (by simp) hYC h;have hCC:CtV (Im [b10,b6,bl] wC) ct (.agg #[va,vo]):=hCt.mono fun _ _ _ h=>jh' k0C (by simp) hYC h;refine ldN [iV (entD B en).kind,.slice asr (row s).length csr,.slice ap ps.length cp,.slice aq qi.length cq,.slice (some ⟨bc,oc,none⟩) (entD B en).ctors.length cc,u5,u6] rfl (bZ h2C) ?_;refine ldN [va,vo] rfl (bZ h9C) ?_;refine ab' (sQ' hB (cx0:=cp0) (n0:=n) (ys:=ga) hcp hla (by omega) hXC (by simp) (by simp) (by omega) hLC hTC (fun i y hy=>by rw [hcl]; exact hgaF i y hy) hsF hF.s2 hF.sort ⟨h0,h1⟩ hnp hC.args hEC hCC) ?_;rintro e wD ⟨he,kCD⟩;have k0D:Kp [bl] w wD:=k0C.trans kCD fun x hx hl=>by
   simp at hx;rcases hx with rfl | rfl
   ·simp
   ·omega
  have k9D:Kp [bl] w9 wD:=(k9C.weak (by simp)).trans kCD fun x hx hl=>by
   simp at hx;rcases hx with rfl | rfl
   ·simp
   ·omega
  cases hAr:fV' B en ga cp0 n with
  | error er =>
   rw [hAr] at he hr;have hr:RES = .error er:=hr;subst hr;obtain ⟨rfl,her,hLD⟩:=he;exact ⟨⟨_,rfl⟩,⟨her,fin (by simp) hLD⟩,k0D⟩
  | ok q4 =>
  obtain ⟨cx4,n4⟩:=q4;rw [hAr] at he hr;have hr:RES = bdJ (oD' B en go ga.length cx4 go 0 n4) fun _ n=>dM' B en cp0 ((entD B en).ctors.drop (k + 1)) n:=hr;obtain ⟨rfl,hLD,hTD⟩:=he;have hcx4:CxOk B cx4:=nV' ga cp0 n (cx4,n4) hcp (fun i y hy=>by rw [hcl]; exact hgaF i y hy) hAr;have hcl4:cx4.length = ps.length + ga.length:=by
   have:=kl' _ _ _ _ hAr;simp only at this;rw [this];simp [hcl]
  have hXD:∀ b ∈ [b10,b6,bl],b < wD.heap.size:=xU hXC kCD;have h2D:=h2C.kp kCD (by simp; omega);have h9D:=h9C.kp kCD (by simp; omega);have hED:EnV (Im [b10,b6,bl] wD) (entD B en) (.agg #[iV (entD B en).kind,.slice asr (row s).length csr,.slice ap ps.length cp,.slice aq qi.length cq,.slice (some ⟨bc,oc,none⟩) (entD B en).ctors.length cc,u5,u6]):=hEn.mono fun _ _ _ h=>jh' k0D (by simp) hYC h;have hCD:CtV (Im [b10,b6,bl] wD) ct (.agg #[va,vo]):=hCt.mono fun _ _ _ h=>jh' k0D (by simp) hYC h;refine ldN [iV (entD B en).kind,.slice asr (row s).length csr,.slice ap ps.length cp,.slice aq qi.length cq,.slice (some ⟨bc,oc,none⟩) (entD B en).ctors.length cc,u5,u6] rfl (bZ h2D) ?_;refine ldN [va,vo] rfl (bZ h9D) ?_;refine ab' (uQ' hB (cx:=cx4) (n0:=n4) hcx4 hXD (by simp) (by simp) (by omega) hLD hTD (qi:=qi) (ga:=ga) (go:=go) (np:=ps.length) hcl4 hlp hla hqF hgoF hli hlo hF.indices e2 hC.args hC.out hED hCD) ?_;rintro e wE ⟨he,kDE⟩;have k0E:Kp [bl] w wE:=k0D.tq kDE;have k9E:Kp [bl] w9 wE:=k9D.tq kDE;cases hOu:oD' B en go ga.length cx4 go 0 n4 with
  | error er =>
   rw [hOu] at he hr;have hr:RES = .error er:=hr;subst hr;obtain ⟨rfl,her,hLE⟩:=he;exact ⟨⟨_,rfl⟩,⟨her,fin (by simp) hLE⟩,k0E⟩
  | ok q5 =>
  rw [hOu] at he hr;have hr:RES = dM' B en cp0 ((entD B en).ctors.drop (k + 1)) q5.2:=hr;obtain ⟨rfl,hLE⟩:=he;have hTE:TlC (Im [b6,bl] wE) wE b6 bl cp0:=hT9.kb k9E (by simp) (by omega);refine i6 ?_;exact ⟨(k + 1,q5.2),by simp only; omega,rfl,⟨rfl,rfl,rfl,rfl,rfl,rfl,trivial⟩,hlt,hr,hLE.less fun y hy=>by simp at hy ⊢; omega,hTE,k89.tq k9E⟩
 ·have c:¬ (k:Int) < (entD B en).ctors.length:=c
  rw [JY (by omega)] at hr;subst hr;exact ⟨⟨_,rfl⟩,fin (by simp) hL9,k09⟩
theorem eQ' {C:Mem} (hS:Sub C w) (hold:∀ b o v,C b o v -> b < w.heap.size) {vb:Value} (hvb:BoV C B vb) (fuel:Int) :
  CC 6 #[vb,iV en,iV fuel] w (fun e w'=>mA' (cS' B en fuel) (fun q=>e = .returned (.tuple #[iV (q.2:Int),iV 0])) (fun er=>e = .returned (.tuple #[iV 0,iV er]) /\ er ≠ 0) /\ Kp [] w w'):=by
 refine oF Tryz.func6 ?_;obtain ⟨RES,hRES⟩:∃ r,cS' B en fuel = r:=⟨_,rfl⟩
 rw [hRES];unfold cS' at hRES;have hvv:=hvb;obtain ⟨v1,v2,v3,rfl,hO,hE,hP⟩:=hvb;refine cO (args:=[_,_,_]) 33 [.tmp 6,.tmp 7] τok Tryz.func6 ?_;refine new fun b3 w1 hb3 h3 hs1 hk1=>?_;have h3:Bk w1.heap b3 [iV B.vars,v1,v2,iV B.nat,v3] 26:=h3;refine ldN [iV B.vars,v1,v2,iV B.nat,v3] rfl (bZ h3) ?_;refine ab' (qP' (hS.tr hk1) (Kp.hold hk1 hold) hvv en) ?_;rintro r w2 ⟨rfl,hk2⟩;have k02:=hk1.tr hk2;have h3:=h3.kp hk2 (by simp)
 by_cases g:az' B en ≠ 0
 ·rw [if_pos g] at hRES
  subst hRES;refine au' g ?_;exact ⟨⟨rfl,g⟩,k02⟩
 rw [if_neg g] at hRES;refine bz' g ?_;refine ldN [iV B.vars,v1,v2,iV B.nat,v3] rfl (bZ h3) ?_;refine od' ?_;refine lR' ?_;obtain ⟨n,hn,hn1⟩:∃ n:Nat,min (max fuel 0) 100000 = (n:Int) /\ aS' fuel = n:=⟨_,by unfold aS'; omega,rfl⟩
 rw [hn];rw [hn1] at hRES;refine new fun bl w3 hbl hL hs3 hk3=>?_;have hL:Bk w3.heap bl [iV B.vars,v1,v2,iV B.nat,v3,iV en,iV (n:Int),iV 0] 54:=hL;have k03:=k02.tr hk3;have hbl:bl = w2.heap.size:=hbl;have l2:=k02.size;have up:∀ b o v,C b o v -> Im [bl] w3 b o v:=fun b o v h=>⟨hS.tr k03 _ _ _ h,fun hm=>by
  have:=hold _ _ _ h;simp at hm;omega⟩
 have hLk:LkC (Im [bl] w3) w3 bl B en n 0:=⟨v1,v2,v3,hL,hO.mono up,hE.mono up,hP.mono up⟩
 refine ab' (uR' (Decidable.not_not.1 g) hLk) ?_;rintro e w4 ⟨⟨v,rfl⟩,hA,k34⟩;have k04:Kp [] w w4:=k03.trans k34 fun x hx hl=>by
  simp at hx;omega
 cases hr:vp' B en n with
 | error er =>
  rw [hr] at hA hRES;subst hRES;obtain ⟨her,w1',w2',w3',hl4,_⟩:=hA;refine aw' τok (fun z=>Kp [] w4 z) ?_;refine rV τok (rg 0 10) 0 (mR 10 10) (kQd w4) ?_;refine lk hl4 ?_;refine lk hl4 ?_;refine dV ?_;exact ⟨⟨rfl,her⟩,k04.dr _⟩
 | ok q =>
  rw [hr] at hA hRES;subst hRES;obtain ⟨w1',w2',w3',hl4,_⟩:=hA;refine aw' τok (fun z=>Kp [] w4 z) ?_;refine rV τok (rg 0 10) 0 (mR 10 10) (kQd w4) ?_;refine lk hl4 ?_;refine lk hl4 ?_;refine dV ?_;exact ⟨rfl,k04.dr _⟩
end
def rT:List Nd:=[⟨2,1,1⟩,⟨3,0,0⟩]
def rI:List Nd:=[⟨9,0,0⟩]
def rX:List Nd:=[⟨4,0,0⟩,⟨9,0,0⟩,⟨9,0,0⟩]
def enB (r:List Nd):EnT:={ kind:=1,sort:=rT,params:=[],indices:=[],ctors:=[⟨[],[]⟩,⟨[r],[]⟩],type:=[],body:=[] }
def BN (r:List Nd) (nat:Int):BoT:=⟨0,[],[enB r],nat,[]⟩
theorem qV':cS' (BN rI 0) 0 9 = .ok ((),9):=by kernel_rfl
theorem sS':cS' (BN rX (-1)) 0 9 = .error 20:=by kernel_rfl
theorem sT':lE' (BN rX (-1)) 0 = (false,0):=by kernel_rfl
def kq' (lim:Int):List (List Nd) -> Int -> Int
 | [],a=>a
 | l :: r,a=>if a < lim then kq' lim r (a + 1 + (l.length:Int)) else a
def szC (lim:Int):List CtT -> Int -> Int
 | [],a=>a
 | c :: r,a=>if a < lim then szC lim r (a + 1 + kq' lim c.args 0 + kq' lim c.out 0) else a
def szE (lim:Int):List EnT -> Int -> Int
 | [],a=>a
 | x :: r,a=>if a < lim then szE lim r (szC lim x.ctors (a + 1 + (x.sort.length:Int) + (x.type.length:Int) + (x.body.length:Int) + kq' lim x.params 0 + kq' lim x.indices 0)) else a
def uS' (B:BoT) (lim:Int):Int:=szE lim B.ents ((B.orders.length:Int) + (B.prims.length:Int))
theorem uT' {lim a:Int} (h:¬ a < lim):∀ (l:List (List Nd)),kq' lim l a = a
 | []=>rfl
 | l :: r=>by simp only [kq']; rw [if_neg h]
theorem sU' {lim a:Int} (h:¬ a < lim):∀ (l:List CtT),szC lim l a = a
 | []=>rfl
 | l :: r=>by simp only [szC]; rw [if_neg h]
theorem sV' {lim a:Int} (h:¬ a < lim):∀ (l:List EnT),szE lim l a = a
 | []=>rfl
 | l :: r=>by simp only [szE]; rw [if_neg h]
section
variable {C:Mem} {w:World} {B:BoT}
theorem gL' (hS:Sub C w) {ls:List (List Nd)} {vl:Value} (hl:SV (rSk rNd) C ls vl) {lim:Int} (h0:0 <= lim /\ lim <= 100000) :
  CC 12 #[vl,iV lim] w (fun e w'=>(e = .returned (iV (kq' lim ls 0)) /\ 0 <= kq' lim ls 0 /\ kq' lim ls 0 <= 1200000000000) /\ Kp [] w w'):=by
 refine oF Tryz.func12 ?_;obtain ⟨RES,hRES⟩:∃ r,kq' lim ls 0 = r:=⟨_,rfl⟩
 rw [hRES];have hll:=hl;obtain ⟨al,cl,rfl,hl1,hl2⟩:=hl;have l1:=hl1.1;refine cO (args:=[_,_]) 27 [.tmp 4] τok Tryz.func12 ?_;refine lp τok (σ:=Nat × Int) (fun q=>[(0,.slice al ls.length cl),(1,iV lim),(5,iV q.2),(6,iV (q.1:Int))])
  (fun q w'=>q.1 <= ls.length /\ 0 <= q.2 /\ q.2 <= 1200000000000 /\ Kp [] w w' /\ kq' lim (ls.drop q.1) q.2 = RES) (fun q=>ls.length - q.1) (0,0) rfl
  ⟨rfl,rfl,rfl,rfl,trivial⟩ ⟨KV _,Int.le_refl _,by decide,Kp.refl _ _,hRES⟩ ?_
 clear hRES
 rintro ⟨i,a⟩ w1 ⟨hi,ha0,ha1,hk1,hres⟩;simp only at hi ha0 ha1 hres;have fin:kq' lim (ls.drop i) a = a -> (Ending.returned (Go.Wx.one [iV a]) = .returned (iV RES) /\ 0 <= RES /\ RES <= 1200000000000) /\ Kp [] w w1:=fun h=>by
  rw [h] at hres;subst hres;exact ⟨⟨rfl,ha0,ha1⟩,hk1⟩
 refine ac' (fun g=>?_) (fun g=>?_)
 ·have g:(i:Int) < (ls.length:Int):=g
  refine ac' (fun g2=>?_) (fun g2=>?_)
  ·have g2:a < lim:=g2
   obtain ⟨l,hl,hd⟩:=af' (l:=ls) (k:=i) (by omega);rw [hd] at hres;simp only [kq'] at hres;rw [if_pos g2] at hres;obtain ⟨b,o,c,pc,u,hu,hsu⟩:=qI' hll hl;injection pc with q1 q2 q3
   subst q1 q3;obtain ⟨au,cu,rfl,hu1,_⟩:=id hsu;have lu:=hu1.1;refine i6 ?_;refine ix i rfl (by omega) ?_;refine ld (Cl.cell (hS.tr hk1 _ _ _ hu)) ?_;refine i6 ?_;refine i6 ?_;exact ⟨(i + 1,a + 1 + (l.length:Int)),by simp only; omega,rfl,⟨rfl,rfl,rfl,rfl,trivial⟩,by show i + 1 <= _; omega,by simp only; omega,by simp only; omega,hk1,hres⟩
  ·have g2:¬ a < lim:=g2
   exact fin (uT' g2 _)
 ·have g:¬ (i:Int) < (ls.length:Int):=g
  exact fin (by rw [JY (by omega)]; rfl)
theorem uU' (hS:Sub C w) {vb:Value} (hvb:BoV C B vb) {lim:Int} (h0:0 <= lim /\ lim <= 100000) :
  CC 5 #[vb,iV lim] w (fun e w'=>e = .returned (iV (uS' B lim)) /\ Kp [] w w'):=by
 refine oF Tryz.func5 ?_;obtain ⟨RES,hRES⟩:∃ r,uS' B lim = r:=⟨_,rfl⟩
 rw [hRES];unfold uS' at hRES;obtain ⟨v1,v2,v3,rfl,hO,hE,hP⟩:=hvb;obtain ⟨ao,co,rfl,hO1,_⟩:=id hO;obtain ⟨ae,ce,rfl,hE1,_⟩:=id hE;obtain ⟨ap,cp,rfl,hP1,_⟩:=id hP;have lO:=hO1.1;have lE:=hE1.1;have lP:=hP1.1;refine cO (args:=[_,_]) 90 [.tmp 4] τok Tryz.func5 ?_;refine new fun b2 w1 hb2 h2 hs1 hk1=>?_;have h2:Bk w1.heap b2 [iV B.vars,.slice ao B.orders.length co,.slice ae B.ents.length ce,iV B.nat,.slice ap B.prims.length cp] 26:=h2;refine lb h2 ?_;refine lb h2 ?_;refine i6 ?_;refine lp τok (σ:=Nat × Int) (fun q=>[(1,iV lim),(2,pt b2),(5,iV q.2),(6,iV (q.1:Int))])
  (fun q w'=>q.1 <= B.ents.length /\ 0 <= q.2 /\ q.2 <= 100000000000000 /\ Kp [] w1 w' /\ szE lim (B.ents.drop q.1) q.2 = RES) (fun q=>B.ents.length - q.1) (0,(B.orders.length:Int) + (B.prims.length:Int)) rfl
  ⟨rfl,rfl,rfl,rfl,trivial⟩ ⟨KV _,by simp only; omega,by simp only; omega,Kp.refl _ _,hRES⟩ ?_
 clear hRES
 rintro ⟨i,a⟩ w2 ⟨hi,ha0,ha1,hk2,hres⟩;simp only at hi ha0 ha1 hres;have k02:=hk1.tr hk2;have h22:=h2.kp hk2 (by simp);have fin:szE lim (B.ents.drop i) a = a -> Ending.returned (Go.Wx.one [iV a]) = .returned (iV RES) /\ Kp [] w w2:=fun h=>by
  rw [h] at hres;subst hres;exact ⟨rfl,k02⟩
 refine lb h22 ?_;refine ac' (fun g=>?_) (fun g=>?_)
 ·have g:(i:Int) < (B.ents.length:Int):=g
  refine ac' (fun g2=>?_) (fun g2=>?_)
  ·have g2:a < lim:=g2
   obtain ⟨x,hx,hd⟩:=af' (l:=B.ents) (k:=i) (by omega);rw [hd] at hres;simp only [szE] at hres;rw [if_pos g2] at hres;obtain ⟨be,oe,ce',pe,hat⟩:=hE.at hx;obtain ⟨w1e,w2e,w3e,w4e,w5e,w6e,hcs,hki,hso,hpa,hin,hct,hty,hbo⟩:=eB' hat;injection pe with q1 q2 q3
   subst q1 q3;obtain ⟨as_,cs_,rfl,hso1,_⟩:=id hso;obtain ⟨apa,cpa,rfl,hpa1,_⟩:=id hpa;obtain ⟨ain,cin,rfl,hin1,_⟩:=id hin;obtain ⟨act,cct,rfl,hct1,_⟩:=id hct;obtain ⟨aty,cty,rfl,hty1,_⟩:=id hty;obtain ⟨abo,cbo,rfl,hbo1,_⟩:=id hbo;have m1:=hso1.1;have m2:=hct1.1;have m3:=hty1.1;have m4:=hbo1.1;refine lb h22 ?_;refine ix i rfl (by omega) ?_;refine ldN _ rfl (fun j u hj=>(hS.tr k02) _ _ _ (hcs j u hj)) ?_;refine new fun b7 w3 hb7 h7 hs3 hk3=>?_;refine stN (vs:=[iV x.kind,.slice as_ x.sort.length cs_,.slice apa x.params.length cpa,.slice ain x.indices.length cin,.slice act x.ctors.length cct,.slice aty x.type.length cty,.slice abo x.body.length cbo]) h7 rfl (by simp [Value.oneCell']) fun w4 h7 hs4 hk4=>?_;have k24:=hk3.newSt hb7 hk4;have k04:=k02.tr k24;have h7:Bk w4.heap b7 [iV x.kind,.slice as_ x.sort.length cs_,.slice apa x.params.length cpa,.slice ain x.indices.length cin,.slice act x.ctors.length cct,.slice aty x.type.length cty,.slice abo x.body.length cbo] 40:=h7;refine aw' τok (fun z=>Kp [] w4 z) ?_;refine rV τok [0,1,2,3,4,5,6,7,8,9,10,11,12,13,14,15,16,19,20,21] 5 (mB 25 [17,18,22,23,24]) (kQd w4) ?_;refine i6 ?_;refine lk h7 ?_;refine i6 ?_;refine lk h7 ?_;refine i6 ?_;refine lk h7 ?_;refine i6 ?_;refine lk h7 ?_;refine lk h7 ?_;refine nV τok 17 4 (mB 25 [18,22,23,24]) ?_;refine ab' (gL' (w:=(dr w4)) (hS.tr (k04.dr _)) hpa h0) ?_;rintro e w5 ⟨⟨rfl,p0,p1⟩,hk5⟩;have hk5:Kp [] w4 w5:=hk5.rd;refine ⟨.inl hk5,?_⟩;refine rV τok [18] 3 (mR 25 22) hk5 ?_;refine i6 ?_;refine nV τok 22 2 (mR 25 23) ?_;refine ab' (gL' (hS.tr (k04.tr hk5)) hin h0) ?_;rintro e w6 ⟨⟨rfl,i0,i1⟩,hk6⟩;have k46:=hk5.tr hk6;refine ⟨.inl k46,?_⟩;refine rV τok [23,24] 0 (mR 25 25) k46 ?_;refine i6 ?_;refine dV ?_;obtain ⟨a1,ha1'⟩:∃ a1,a1 = a + 1 + (x.sort.length:Int) + (x.type.length:Int) + (x.body.length:Int) + kq' lim x.params 0 + kq' lim x.indices 0:=⟨_,rfl⟩
   rw [<- ha1'] at hres ⊢;have k06:=k04.tr k46;have h7:=h7.kp k46 (by simp);obtain ⟨RC,hRC⟩:∃ r,szC lim x.ctors a1 = r:=⟨_,rfl⟩
   rw [hRC] at hres;refine lp τok (σ:=Nat × Int) (fun q=>[(1,iV lim),(2,pt b2),(5,iV q.2),(6,iV (i:Int)),(7,pt b7),(8,iV (q.1:Int))])
    (fun q w'=>q.1 <= x.ctors.length /\ 0 <= q.2 /\ q.2 <= 100000000000000 /\ Kp [] w6 w' /\ szC lim (x.ctors.drop q.1) q.2 = RC) (fun q=>x.ctors.length - q.1) (0,a1) rfl
    ⟨rfl,rfl,rfl,rfl,rfl,rfl,trivial⟩ ⟨KV _,by simp only; omega,by simp only; omega,Kp.refl _ _,hRC⟩ ?_
   clear hRC
   rintro ⟨j,a2⟩ w7 ⟨hj,hj0,hj1,hk7,hRC⟩;simp only at hj hj0 hj1 hRC;have k07:=k06.tr hk7;have h77:=h7.kp hk7 (by simp);refine lb h77 ?_;have k17:Kp [] w1 w7:=(hk2.tr k24).tr (k46.tr hk7);have next:szC lim (x.ctors.drop j) a2 = a2 -> a2 = RC:=fun h=>by rw [<- hRC,h]
   refine ac' (fun y1=>?_) (fun y1=>?_)
   ·have y1:(j:Int) < (x.ctors.length:Int):=y1
    refine ac' (fun y2=>?_) (fun y2=>?_)
    ·have y2:a2 < lim:=y2
     obtain ⟨c,hc,hd⟩:=af' (l:=x.ctors) (k:=j) (by omega);rw [hd] at hRC;simp only [szC] at hRC;rw [if_pos y2] at hRC;obtain ⟨bc,oc,cc',pc,hca⟩:=hct.at hc;obtain ⟨va,vo,hccs,hva,hvo⟩:=hH' hca;injection pc with q1 q2 q3
     subst q1 q3;obtain ⟨aa,ca,rfl,_,_⟩:=id hva;obtain ⟨aoo,coo,rfl,_,_⟩:=id hvo;have hS7:=hS.tr k07;refine aw' τok (fun z=>Kp [] w7 z) ?_;refine rV τok [0,1,2,3,4,5,6,7,8,11,12,13,14,15,16,17] 5 (mB 21 [9,10,18,19,20]) (kQd w7) ?_;refine i6 ?_;refine lk h77 ?_;refine ix j rfl (by omega) ?_;refine ldK (hS7 _ _ _ (hccs 0 _ rfl)) ?_;refine lk h77 ?_;refine ix j rfl (by omega) ?_;refine ldK (hS7 _ _ _ (hccs 1 _ rfl)) ?_;refine nV τok 9 4 (mB 21 [10,18,19,20]) ?_;refine ab' (gL' (w:=(dr w7)) (hS.tr (k07.dr _)) hva h0) ?_;rintro e w8 ⟨⟨rfl,s0,s1⟩,hk8⟩;have hk8:Kp [] w7 w8:=hk8.rd;refine ⟨.inl hk8,?_⟩;refine rV τok [10] 3 (mR 21 18) hk8 ?_;refine i6 ?_;refine nV τok 18 2 (mR 21 19) ?_;refine ab' (gL' (hS7.tr hk8) hvo h0) ?_;rintro e w9 ⟨⟨rfl,t0,t1⟩,hk9⟩;have k79:=hk8.tr hk9;refine ⟨.inl k79,?_⟩;refine rV τok [19,20] 0 (mR 21 21) k79 ?_;refine i6 ?_;refine dV ?_;refine i6 ?_;exact ⟨(j + 1,a2 + 1 + kq' lim c.args 0 + kq' lim c.out 0),by simp only; omega,rfl,⟨rfl,rfl,rfl,rfl,rfl,rfl,trivial⟩,by show j + 1 <= _; omega,by simp only; omega,by simp only; omega,hk7.tr k79,hRC⟩
    ·have y2:¬ a2 < lim:=y2
     have:=next (sU' y2 _);refine i6 ?_;exact ⟨(i + 1,a2),by simp only; omega,rfl,⟨rfl,rfl,rfl,rfl,trivial⟩,by show i + 1 <= _; omega,hj0,hj1,k17,by simp only; rw [this]; exact hres⟩
   ·have y1:¬ (j:Int) < (x.ctors.length:Int):=y1
    have:=next (by rw [JY (by omega)]; rfl);refine i6 ?_;exact ⟨(i + 1,a2),by simp only; omega,rfl,⟨rfl,rfl,rfl,rfl,trivial⟩,by show i + 1 <= _; omega,hj0,hj1,k17,by simp only; rw [this]; exact hres⟩
  ·have g2:¬ a < lim:=g2
   exact fin (sV' g2 _)
 ·have g:¬ (i:Int) < (B.ents.length:Int):=g
  exact fin (by rw [JY (by omega)]; rfl)
end
section
variable {w:World}
theorem qW' {α:Type} {R:Rd α} {b T:Nat} {x:α} {cs:List Value} (hb:Bk w.heap b cs T) (hd:R.den (Im [] w) cs x):SV R (Im [] w) [x] (.slice (some ⟨b,0,none⟩) 1 1):=by
 refine ⟨_,_,rfl,⟨by simp,.inr ⟨b,0,rfl,fun i y hy=>?_⟩⟩,by simp⟩
 match i,hy with
 | 0,hy =>
  obtain rfl:x = y:=by simpa using hy
  refine ⟨cs,hd,fun j v hj=>⟨?_,by simp⟩⟩;rw [Nat.zero_mul,Nat.add_zero,KW];exact hb.cl hj
 | i + 1,hy=>simp at hy
theorem tH' {α:Type} {R:Rd α} {b T:Nat} {x y:α} {cs ds:List Value} (hb:Bk w.heap b (cs ++ ds) T) (hd:R.den (Im [] w) cs x) (he:R.den (Im [] w) ds y):SV R (Im [] w) [x,y] (.slice (some ⟨b,0,none⟩) 2 2):=by
 have hl:=R.len hd;refine ⟨_,_,rfl,⟨by simp,.inr ⟨b,0,rfl,fun i z hz=>?_⟩⟩,by simp⟩
 match i,hz with
 | 0,hz =>
  obtain rfl:x = z:=by simpa using hz
  refine ⟨cs,hd,fun j v hj=>⟨?_,by simp⟩⟩;rw [Nat.zero_mul,Nat.add_zero,KW];exact hb.cl (by rw [List.getElem?_append_left (ak' hj)]; exact hj)
 | 1,hz =>
  obtain rfl:y = z:=by simpa using hz
  refine ⟨ds,he,fun j v hj=>⟨?_,by simp⟩⟩;rw [Nat.one_mul,KW];exact hb.cl (by rw [List.getElem?_append_right (by omega),hl,Nat.add_sub_cancel_left]; exact hj)
 | i + 2,hz=>simp at hz
theorem sW' {b:Nat} (hx:Bk w.heap b [iV 4,iV 0,iV 0,iV 9,iV 0,iV 0,iV 9,iV 0,iV 0] 45):SV rNd (Im [] w) rX (.slice (some ⟨b,0,none⟩) 3 3):=by
 refine ⟨_,_,rfl,⟨by simp [rX],.inr ⟨b,0,rfl,fun i m hm=>?_⟩⟩,KJ _⟩
 match i,hm with
 | 0,hm =>
  obtain rfl:(⟨4,0,0⟩:Nd) = m:=by simpa [rX] using hm
  exact ⟨_,⟨rfl,⟨by simp,by simp⟩,⟨by simp,by simp⟩,⟨by simp,by simp⟩⟩,fun j u hj=>⟨hx.cl (by
   match j,hj with
   | 0,hj=>exact hj
   | 1,hj=>exact hj
   | 2,hj=>exact hj
   | j + 3,hj=>simp at hj),by simp⟩⟩
 | 1,hm =>
  obtain rfl:(⟨9,0,0⟩:Nd) = m:=by simpa [rX] using hm
  exact ⟨_,⟨rfl,⟨by simp,by simp⟩,⟨by simp,by simp⟩,⟨by simp,by simp⟩⟩,fun j u hj=>⟨hx.cl (by
   match j,hj with
   | 0,hj=>exact hj
   | 1,hj=>exact hj
   | 2,hj=>exact hj
   | j + 3,hj=>simp at hj),by simp⟩⟩
 | 2,hm =>
  obtain rfl:(⟨9,0,0⟩:Nd) = m:=by simpa [rX] using hm
  exact ⟨_,⟨rfl,⟨by simp,by simp⟩,⟨by simp,by simp⟩,⟨by simp,by simp⟩⟩,fun j u hj=>⟨hx.cl (by
   match j,hj with
   | 0,hj=>exact hj
   | 1,hj=>exact hj
   | 2,hj=>exact hj
   | j + 3,hj=>simp at hj),by simp⟩⟩
 | i + 3,hm=>simp [rX] at hm
def xf' (w:World) (b3 b7 b9 b11:Nat) (vr:Value):Prop :=
 Bk w.heap b3 [iV 2,iV 1,iV 1,iV 3,iV 0,iV 0] 45 /\ Bk w.heap b7 [vr] 33 /\ Bk w.heap b9 [.slice none 0 0,.slice none 0 0,.slice (some ⟨b7,0,none⟩) 1 1,.slice none 0 0] 47 /\
  Bk w.heap b11 [iV 1,.slice (some ⟨b3,0,none⟩) 2 2,.slice none 0 0,.slice none 0 0,.slice (some ⟨b9,0,none⟩) 2 2,.slice none 0 0,.slice none 0 0] 40
theorem rT_v {b3:Nat} (h:Bk w.heap b3 [iV 2,iV 1,iV 1,iV 3,iV 0,iV 0] 45):SV rNd (Im [] w) rT (.slice (some ⟨b3,0,none⟩) 2 2) :=
 tH' (cs:=[iV 2,iV 1,iV 1]) (ds:=[iV 3,iV 0,iV 0]) h ⟨rfl,⟨by simp,by simp⟩,⟨by simp,by simp⟩,⟨by simp,by simp⟩⟩ ⟨rfl,⟨by simp,by simp⟩,⟨by simp,by simp⟩,⟨by simp,by simp⟩⟩
theorem wq' {b3 b7 b9 b11:Nat} {vr:Value} {r:List Nd} {nat:Int} (h:xf' w b3 b7 b9 b11 vr) (hr:SV rNd (Im [] w) r vr):BoV (Im [] w) (BN r nat) (.agg #[iV 0,.slice none 0 0,.slice (some ⟨b11,0,none⟩) 1 1,iV nat,.slice none 0 0]):=by
 obtain ⟨h3,h7,h9,h11⟩:=h;refine ⟨_,_,_,rfl,SV.nil _ _,qW' h11 ?_,SV.nil _ _⟩;obtain ⟨ar,cr,rfl,hr1,hr2⟩:=hr;have h71:SV (rSk rNd) (Im [] w) [r] (.slice (some ⟨b7,0,none⟩) 1 1):=qW' h7 ⟨_,_,rfl,hr2,hr1⟩;refine ⟨_,_,_,_,_,_,rfl,⟨by simp [enB],by simp [enB]⟩,rT_v h3,SV.nil _ _,SV.nil _ _,?_,SV.nil _ _,SV.nil _ _⟩;exact tH' (cs:=[.slice none 0 0,.slice none 0 0]) (ds:=[.slice (some ⟨b7,0,none⟩) 1 1,.slice none 0 0]) h9 ⟨_,_,rfl,SV.nil _ _,SV.nil _ _⟩ ⟨_,_,rfl,h71,SV.nil _ _⟩
theorem qX' (w:World) :
  CC 10 #[] w (fun e w'=>(∃ b3 b6 b7 b9 b11,e = .returned (.agg #[iV 0,.slice none 0 0,.slice (some ⟨b11,0,none⟩) 1 1,iV 0,.slice none 0 0]) /\ xf' w' b3 b7 b9 b11 (.slice (some ⟨b6,0,none⟩) 1 1) /\ Bk w'.heap b6 [iV 9,iV 0,iV 0] 45 /\ w.heap.size <= b3 /\ b3 < b6 /\ b6 < b7 /\ b7 < b9 /\ b9 < b11) /\ Kp [] w w'):=by
 refine oF Tryz.func10 ?_;refine cO (args:=[]) 13 [.cell 0 26] τok Tryz.func10 ?_;refine new fun b0 w0 hb0 h0 hs0 hk0=>?_;refine fill [iV 2,iV 1,iV 1,iV 3,iV 0,iV 0] rfl ?_;refine new fun b3 w1 hb3 h3 hs1 hk1=>?_;refine fill [iV 9,iV 0,iV 0] rfl ?_;refine new fun b6 w2 hb6 h6 hs2 hk2=>?_;refine fill [.slice (some ⟨b6,0,none⟩) 1 1] rfl ?_;refine new fun b7 w3 hb7 h7 hs3 hk3=>?_;refine fill [.slice none 0 0,.slice none 0 0,.slice (some ⟨b7,0,none⟩) 1 1,.slice none 0 0] rfl ?_;refine new fun b9 w4 hb9 h9 hs4 hk4=>?_;refine fill [iV 1,.slice (some ⟨b3,0,none⟩) 2 2,.slice none 0 0,.slice none 0 0,.slice (some ⟨b9,0,none⟩) 2 2,.slice none 0 0,.slice none 0 0] rfl ?_;refine new fun b11 w5 hb11 h11 hs5 hk5=>?_;have k45:=hk5;have k35:=hk4.tr k45;have k25:=hk3.tr k35;have k15:=hk2.tr k25;have k05:=hk1.tr k15;refine stN (vs:=[iV 0,.slice none 0 0,.slice (some ⟨b11,0,none⟩) 1 1,iV 0,.slice none 0 0]) (h0.kp k05 (by simp)) rfl (by simp [Value.oneCell']) fun w6 h06 hs6 hk6=>?_;refine ju' τok rfl [_,_,_,_,_] rfl (fun j v hj=>h06.cl hj) ?_;have z0:b0 = w.heap.size:=hb0;have z3:b3 = w0.heap.size:=hb3;have z6:b6 = w1.heap.size:=hb6;have z7:b7 = w2.heap.size:=hb7;have z9:b9 = w3.heap.size:=hb9;have z11:b11 = w4.heap.size:=hb11;refine ⟨⟨b3,b6,b7,b9,b11,rfl,⟨(h3.kp k15 (by simp)).kp hk6 (by simp; omega),(h7.kp k35 (by simp)).kp hk6 (by simp; omega),(h9.kp k45 (by simp)).kp hk6 (by simp; omega),h11.kp hk6 (by simp; omega)⟩,(h6.kp k25 (by simp)).kp hk6 (by simp; omega),by omega,by omega,by omega,by omega,by omega⟩,(hk0.tr k05).newSt hb0 hk6⟩
theorem qY' (w:World) :
  CC 4 #[] w (fun e w'=>e = .returned (.bool true) /\ Kp [] w w'):=by
 refine oF Tryz.func4 ?_;refine cO (args:=[]) 56 [.tmp 0] τok Tryz.func4 ?_;refine ab' (qX' w) ?_;rintro e w1 ⟨⟨b3,b6,b7,b9,b11,rfl,hN,h6,_⟩,hk1⟩;have hrI:SV rNd (Im [] w1) rI (.slice (some ⟨b6,0,none⟩) 1 1):=qW' h6 ⟨rfl,⟨by simp,by simp⟩,⟨by simp,by simp⟩,⟨by simp,by simp⟩⟩;refine ab' (eQ' (w:=w1) (en:=0) (Im.sub [] w1) (fun _ _ _ h=>h.hold) (wq' (nat:=0) hN hrI) 9) ?_;rintro e w2 ⟨he,hk2⟩;rw [qV'] at he;obtain rfl:=he;refine ab' (qX' w2) ?_;rintro e w3 ⟨⟨c3,c6,c7,c9,c11,rfl,hN,g6,q1,q2,q3,q4,q5⟩,hk3⟩;refine new fun bb w4 hbb hb hs4 hk4=>?_;refine stN (vs:=[iV 0,.slice none 0 0,.slice (some ⟨c11,0,none⟩) 1 1,iV 0,.slice none 0 0]) hb rfl (by simp [Value.oneCell']) fun w5 hb hs5 hk5=>?_;have k35:=hk4.newSt hbb hk5;have zb:bb = w3.heap.size:=hbb;obtain ⟨g3,g7,g9,g11⟩:=hN;have g3:=g3.kp k35 (by simp);have g7:=g7.kp k35 (by simp);have g9:=g9.kp k35 (by simp);have g11':=g11.lt;have g11:=g11.kp k35 (by simp);refine lb hb ?_;refine ix 0 rfl (by omega) ?_;refine lb g11 ?_;refine ix 1 rfl (by omega) ?_;refine lb g9 ?_;refine fill [iV 4,iV 0,iV 0,iV 9,iV 0,iV 0,iV 9,iV 0,iV 0] rfl ?_;refine new fun bx w6 hbx hx hs6 hk6=>?_;refine ix 0 rfl (by omega) ?_;refine st (b:=c7) (o:=0) (g7.kp hk6 (by simp)) (by simp) rfl fun w7 g7 hs7 hk7=>?_;have g7:Bk w7.heap c7 [.slice (some ⟨bx,0,none⟩) 3 3] 33:=g7;have zx:bx = w5.heap.size:=hbx;have s5:=k35.size;refine st (b:=bb) (o:=3) ((hb.kp hk6 (by simp)).kp hk7 (by simp; omega)) (by simp) rfl fun w8 hb hs8 hk8=>?_;have hb:Bk w8.heap bb [iV 0,.slice none 0 0,.slice (some ⟨c11,0,none⟩) 1 1,iV (-1),.slice none 0 0] 26:=hb;have hL:xf' w8 c3 c7 c9 c11 (.slice (some ⟨bx,0,none⟩) 3 3):=⟨((g3.kp hk6 (by simp)).kp hk7 (by simp; omega)).kp hk8 (by simp; omega),g7.kp hk8 (by simp; omega),((g9.kp hk6 (by simp)).kp hk7 (by simp; omega)).kp hk8 (by simp; omega),((g11.kp hk6 (by simp)).kp hk7 (by simp; omega)).kp hk8 (by simp; omega)⟩
 have hx:=(hx.kp hk7 (by simp; omega)).kp hk8 (by simp; omega);have hrX:SV rNd (Im [] w8) rX (.slice (some ⟨bx,0,none⟩) 3 3):=sW' hx;have hBX:=wq' (nat:=-1) hL hrX;refine ldN [iV 0,.slice none 0 0,.slice (some ⟨c11,0,none⟩) 1 1,iV (-1),.slice none 0 0] rfl (bZ hb) ?_;refine ab' (eQ' (w:=w8) (en:=0) (Im.sub [] w8) (fun _ _ _ h=>h.hold) hBX 9) ?_;rintro e w9 ⟨he,hk9⟩;rw [sS'] at he;obtain ⟨rfl,_⟩:=he;have hb:=hb.kp hk9 (by simp);refine ldN [iV 0,.slice none 0 0,.slice (some ⟨c11,0,none⟩) 1 1,iV (-1),.slice none 0 0] rfl (bZ hb) ?_;refine ab' (qQ' (w:=w9) (C:=Im [] w8) ((Im.sub [] w8).tr hk9) (fun _ _ _ h=>KZ h.hold hk9.size) hBX 0) ?_;rintro e w10 ⟨rfl,hk10⟩;rw [sT'];refine ⟨rfl,?_⟩;have k23:Kp [] w w3:=(hk1.tr hk2).tr hk3;have k8:Kp [c7,bb] w3 w8:=((((k35.tr hk6).weak (by simp)).trans hk7 fun x hx _=>by simp at hx; simp [hx])).trans hk8 fun x hx _=>by simp at hx; simp [hx]
 have s23:=k23.size;have s2:=(hk1.tr hk2).size;exact ((k23.trans k8 fun x hx hl=>by simp at hx; omega).tr hk9).tr hk10
end
section
variable {w:World} {B:BoT}
end
def Apx {β:Type} (r s:Except Int β):Prop:=r = s \/ r = .error 10
theorem Apx.trans {β:Type} {r s t:Except Int β} (h:Apx r s) (k:Apx s t):Apx r t:=by
 rcases h with rfl | h
 ·exact k
 ·exact .inr h
theorem aJ' {α β:Type} {m m':Except Int (α × Nat)} {k k':α -> Nat -> Except Int (β × Nat)} (hm:Apx m m') (hk:∀ a n,Apx (k a n) (k' a n)):Apx (bdJ m k) (bdJ m' k'):=by
 rcases hm with rfl | rfl
 ·cases m with
  | error e=>exact .inl rfl
  | ok q=>exact hk q.1 q.2
 ·exact .inr rfl
theorem bb' {β:Type} {c:Prop} [Decidable c] {a a' b b':Except Int β} (ha:Apx a a') (hb:Apx b b'):Apx (if c then a else b) (if c then a' else b'):=by
 split
 ·exact ha
 ·exact hb
def wz' (r s:RcJ):Prop:=∀ cx t n,Apx (r cx t n) (s cx t n)
section
variable {B:BoT} {r s:RcJ} (hl:wz' r s)
include hl
theorem cT' (cx:Ctx) (t:Tr) (n:Nat):Apx (bt' B r cx t n) (bt' B s cx t n):=aJ' (hl cx t n) fun _ _=>.inl rfl
theorem dv' (cx:Ctx) (t ty:Tr) (n:Nat):Apx (bq' B r cx t ty n) (bq' B s cx t ty n):=aJ' (hl cx t n) fun _ _=>.inl rfl
theorem lG':∀ (l:List Tr) (cx:Ctx) (n:Nat),Apx (iz' B r cx l n) (iz' B s cx l n)
 | [],_,_=>.inl rfl
 | a :: l,cx,n=>aJ' (cT' hl cx a n) fun _ n=>bb' (.inl rfl) (lG' l _ n)
theorem mF' (a:Int) (n:Nat):Apx (cL' B r a n) (cL' B s a n):=bb' (.inl rfl) (bb' (.inl rfl) (lG' hl _ _ n))
theorem fx' (cx:Ctx) (a:Int) (ps:List Tr) (mo:Tr):∀ (l:List Tr) (k n:Nat),Apx (aK' B r cx a ps mo k l n) (aK' B s cx a ps mo k l n)
 | [],_,_=>.inl rfl
 | b :: l,k,n=>aJ' (.inl rfl) fun ty n=>aJ' (dv' hl cx b ty n) fun _ n=>fx' cx a ps mo l _ n
theorem ji' (cx:Ctx) (t:Tr):∀ (k i n:Nat),Apx (eF' B r cx t k i n) (eF' B s cx t k i n)
 | 0,_,_=>.inl rfl
 | k + 1,i,n=>aJ' (cT' hl cx _ n) fun _ n=>ji' cx t k _ n
theorem iq' (cx:Ctx) (t:Tr) (nb:Nat):∀ (k i n:Nat),Apx (cM' B r cx t nb k i n) (cM' B s cx t nb k i n)
 | 0,_,_=>.inl rfl
 | k + 1,i,n=>aJ' (dv' hl cx _ _ n) fun _ n=>iq' cx t nb k _ n
theorem oE' (cx:Ctx) (nd:Nd) (ks:List Tr) (n:Nat):Apx (dJ' B r cx nd ks n) (dJ' B s cx nd ks n):=by
 unfold dJ';refine aJ' (hl cx _ n) fun ty n=>aJ' (.inl rfl) fun z n=>?_;refine bb' (.inl rfl) (bb' (.inl rfl) ?_);refine aJ' (hl cx _ n) fun mt n=>aJ' (.inl rfl) fun kind n=>aJ' ?_ fun b n=>?_
 ·exact bb' (mF' hl _ n) (.inl rfl)
 ·exact bb' (.inl rfl) (aJ' (fx' hl cx _ _ _ _ _ n) fun _ n=>.inl rfl)
theorem sX' (cx:Ctx) (t:Tr) (n:Nat):Apx (rr' B r cx t n) (rr' B s cx t n) :=
 aJ' (ji' hl cx t _ _ n) fun _ n=>bb' (.inl rfl) (aJ' (iq' hl _ t _ _ _ n) fun _ n=>.inl rfl)
theorem oF':wz' (cN' B r) (cN' B s):=fun cx t n=>by
 unfold cN';refine bb' (.inl rfl) (bb' (.inl rfl) (bb' (.inl rfl) (bb' (.inl rfl) (bb' (.inl rfl) (bb' ?_ (bb' ?_ (bb' ?_ (bb' ?_ (bb' (oE' hl cx _ _ n) (sX' hl cx t n))))))))))
 ·exact aJ' (cT' hl cx _ n) fun p n=>aJ' (cT' hl _ _ n) fun q n=>.inl rfl
 ·exact aJ' (cT' hl cx _ n) fun p n=>aJ' (hl _ _ n) fun q n=>.inl rfl
 ·exact aJ' (hl cx _ n) fun ty n=>aJ' (.inl rfl) fun z n=>bb' (.inl rfl) (aJ' (dv' hl cx _ _ n) fun _ n=>.inl rfl)
 ·exact aJ' (cT' hl cx _ n) fun _ n=>aJ' (dv' hl cx _ _ n) fun _ n=>aJ' (hl _ _ n) fun _ n=>.inl rfl
omit hl in
theorem jj':∀ (g:Nat),wz' (aj' B g) (aj' B (g + 1))
 | 0=>fun cx t n=>.inr rfl
 | g + 1=>oF' (jj' g)
omit hl in
theorem ir' {g:Nat}:∀ (k:Nat),wz' (aj' B g) (aj' B (g + k))
 | 0=>fun cx t n=>.inl rfl
 | k + 1=>fun cx t n=>(ir' k cx t n).trans (jj' (g + k) cx t n)
end
theorem qZ' {α:Type} {F:Nat -> Except Int (α × Nat)} (hF:Fue F) {n0 n1:Nat} {a:α} (h0:n0 <= 100000) (h:F n0 = .ok (a,n1)) (n:Nat) (hn:n <= 100000):(∃ m,F n = .ok (a,m) /\ m <= n) \/ F n = .error 10:=by
 obtain ⟨l,f⟩:=hF n0 a n1 h0 h;obtain ⟨f1,f2⟩:=f n hn
 by_cases g:n0 - n1 <= n
 ·exact .inl ⟨_,f1 g,by omega⟩
 ·exact .inr (f2 (by omega))
theorem sort_any {B:BoT} {cx:Ctx} {t:Tr} {n0 n1:Nat} {q:Int × List Atom} (h:bx' B cx t (n0:Int) = .ok (q,n1)) {g:Nat} (hg:g <= GJ) (n:Nat) (hn:n <= 100000):(∃ m,bt' B (aj' B g) cx t n = .ok (q,m) /\ m <= n) \/ bt' B (aj' B g) cx t n = .error 10:=by
 unfold bx' at h;obtain ⟨k,hk⟩:∃ k,GJ = g + k:=⟨GJ - g,by omega⟩
 have ha:=cT' (B:=B) (ir' (B:=B) (g:=g) k) cx t n;rw [<- hk] at ha;rcases ha with ha | ha
 ·rw [ha]
  exact qZ' (cQ' (fU' GJ) cx t) (ev' _) h n hn
 ·exact .inr ha
theorem check_any {B:BoT} {cx:Ctx} {t ty:Tr} {n0 n1:Nat} (h:bv' B cx t ty (n0:Int) = .ok ((),n1)) {g:Nat} (hg:g <= GJ) (n:Nat) (hn:n <= 100000):(∃ m,bq' B (aj' B g) cx t ty n = .ok ((),m) /\ m <= n) \/ bq' B (aj' B g) cx t ty n = .error 10:=by
 unfold bv' at h;obtain ⟨k,hk⟩:∃ k,GJ = g + k:=⟨GJ - g,by omega⟩
 have ha:=dv' (B:=B) (ir' (B:=B) (g:=g) k) cx t ty n;rw [<- hk] at ha;rcases ha with ha | ha
 ·rw [ha]
  exact qZ' (dt' (fU' GJ) cx t ty) (ev' _) h n hn
 ·exact .inr ha
def Alw {β:Type} (r:Except Int β):Prop:=∀ e,r = .error e -> e = 10 \/ e = 9 \/ e = 6 \/ e = 5
theorem Alw.ok {β:Type} {q:β}:Alw (.ok q:Except Int β):=fun e h=>by cases h
theorem Alw.er {β:Type} {e:Int} (h:e = 10 \/ e = 9 \/ e = 6 \/ e = 5):Alw (.error e:Except Int β):=fun e' h'=>by injection h' with h'; subst h'; exact h
theorem wr' {α β:Type} {m:Except Int (α × Nat)} {k:α -> Nat -> Except Int (β × Nat)} (hm:Alw m) (hk:∀ a n,m = .ok (a,n) -> Alw (k a n)):Alw (bdJ m k):=by
 cases m with
 | error e=>exact fun e' h=>hm e' (by cases h; rfl)
 | ok q=>exact hk q.1 q.2 rfl
theorem ws' {vars:Int}:∀ (l:List Atom) (last:Int),(∀ x ∈ l,last < x.var) -> (l.map Atom.var).Pairwise (· < ·) -> (∀ x ∈ l,x.var <= vars /\ 0 <= x.add /\ x.add <= 1000) -> cJ' vars l last = true
 | [],_,_,_,_=>rfl
 | x :: r,last,h1,h2,h3=>by
  simp only [cJ'];have a1:=h1 x (by simp);have a3:=h3 x (by simp);simp only [List.map_cons,List.pairwise_cons] at h2;rw [if_neg (by omega)];exact ws' r x.var (fun y hy=>h2.1 _ (List.mem_map_of_mem hy)) h2.2 fun y hy=>h3 y (by simp [hy])
theorem km' {vars:Int} {l:List Atom} (h:oJ' vars l):aT' l 16 = true:=by
 unfold aT';have h1:=h.lo;have h2:=h.hi;rw [if_neg (by omega)];exact ws' l (-1) (fun x hx=>by have:=h.at_ x hx; omega) h.up fun x hx=>by have:=h.at_ x hx; omega
theorem max_alw {va vb:Int} {a b:List Atom} (ha:oJ' va a) (hb:oJ' vb b):la' a b = 0 \/ la' a b = 5:=by
 unfold la';rw [if_neg (by rw [km' ha,km' hb]; simp)];split
 ·exact .inr rfl
 ·exact .inl rfl
theorem up_alw {va:Int} {a:List Atom} (ha:oJ' va a):upE a 1 = 0 \/ upE a 1 = 6:=by
 unfold upE;rw [if_neg (by rw [km' ha]; simp),if_neg (by decide)];split
 ·exact .inr rfl
 ·exact .inl rfl
section
variable {B:BoT} {cx:Ctx}
theorem whnf_stay {x:Tr} {n:Nat} (hn:n <= 100000) (h1:(headT x).n.op ≠ 1) (h5:(headT x).n.op ≠ 5) (h7:(headT x).n.op ≠ 7) (h8:(headT x).n.op ≠ 8) (h11:(headT x).n.op ≠ 11) (h12:(headT x).n.op ≠ 12):ea' B cx x n = .ok (x,n) \/ ea' B cx x n = .error 5:=by
 unfold ea';split
 ·exact .inr rfl
 refine .inl ?_;obtain ⟨g,hgw⟩:∃ g,GW = g + 1:=⟨GW - 1,by have:=vY'; omega⟩
 have hp:dX' x = none:=by
  unfold dX';rw [if_neg h11,if_neg h12]
 have hr:dd' B cx x = false:=by
  unfold dd';simp only;rw [if_neg h5,if_neg (by omega),if_neg h1,if_neg h11,if_neg h12]
 have hc:aS' (n:Int) = n:=by unfold aS'; omega
 unfold whnfTop;rw [hgw];simp only [whnfG,preW,hp,fp'];rw [if_neg (by rw [hr]; simp),hc]
theorem lH' {rc:RcJ} {t:Tr} {n m:Nat} {k:Int} {l:List Atom} (h:rc cx t n = .ok (dB' k l,m)) (hm:m <= 100000):Alw (bt' B rc cx t n):=by
 unfold bt';rw [h];simp only [bdJ];have hd:headT (dB' k l) = dB' k l:=bm' (by simp);have ha:argsT (dB' k l) = []:=bA' (by simp);have ho:(dB' k l).n.op = 2:=rfl;rcases whnf_stay (B:=B) (cx:=cx) (x:=dB' k l) hm (by rw [hd,ho]; decide) (by rw [hd,ho]; decide) (by rw [hd,ho]; decide) (by rw [hd,ho]; decide) (by rw [hd,ho]; decide) (by rw [hd,ho]; decide) with h | h
 ·rw [h]
  simp only;rw [hd,ha,if_neg (by rw [ho]; simp)];exact Alw.ok
 ·rw [h]
  exact Alw.er (.inr (.inr (.inr rfl)))
theorem sY' {t:Tr} {N:Int} (ht:Ft (QB B) N t) (h2:t.n.op = 2) (g n:Nat) (hn:n <= 100000):Alw (bt' B (aj' B g) cx t n):=by
 cases g with
 | zero=>exact Alw.er (.inl rfl)
 | succ g =>
  have hi:aj' B (g + 1) cx t n = lk' t n:=by
   simp only [aj',cN'];rw [if_neg (by omega),if_pos h2]
  rcases up_alw (nD' ht h2) with h | h
  ·refine lH' (k:=1) (l:=upR (cA' t) 1) (m:=n) ?_ hn
   rw [hi];unfold lk';rw [if_neg (by omega)]
  ·unfold bt'
   rw [hi];unfold lk';rw [if_pos (by omega),h];exact Alw.er (.inr (.inr (.inl rfl)))
theorem fy' (hB:GoodB B):∀ (ys:List Tr) (cx:Ctx) (body:Tr),CxOk B cx -> cx.length + ys.length <= 250 -> (∀ (i:Nat) y,ys[i]? = some y -> ∃ n0 n1 q,bx' B (cx ++ bJ' (ys.take i)) y ((n0:Nat):Int) = .ok (q,n1)) -> Ft (QB B) (cx.length:Int) (aB' 4 ys body) ->
  (∀ g n,g <= GJ -> n <= 100000 -> Alw (bt' B (aj' B g) (cx ++ bJ' ys) body n)) -> ∀ g n,g <= GJ -> n <= 100000 -> Alw (bt' B (aj' B g) cx (aB' 4 ys body) n)
 | [],cx,body,_,_,_,_,hb,g,n,hg,hn=>by
  have:=hb g n hg hn
  simpa [bJ',aB'] using this
 | d :: r,cx,body,hcx,hl,hs,hF,hb,g,n,hg,hn=>by
  cases g with
  | zero=>exact Alw.er (.inl rfl)
  | succ g =>
   obtain ⟨lk,k0,k1⟩:=bR' hF (.inl rfl);have kd0:kidD (aB' 4 (d :: r) body) 0 = d:=rfl;have kd1:kidD (aB' 4 (d :: r) body) 1 = aB' 4 r body:=rfl;rw [kd0] at k0;rw [kd1] at k1;simp only [JV] at hl;obtain ⟨n0,n1,q0,h0⟩:=hs 0 d rfl;rw [List.take_zero,show cx ++ bJ' [] = cx by simp [bJ']] at h0;have hcx':CxOk B (cx ++ [(d,none)]):=hcx.snoc k0 fun x hx=>by cases hx
   have ih:=fy' hB r (cx ++ [(d,none)]) body hcx' (by simp; omega) (fun i y hy=>by
    obtain ⟨a,b,c,h⟩:=hs (i + 1) y (by simpa using hy);refine ⟨a,b,c,?_⟩;rw [<- h];simp [bJ']) (by rw [bE']; exact k1.mono (by omega)) (fun g n hg hn=>by
    have:=hb g n hg hn
    simpa [bJ'] using this) g
   have hi:aj' B (g + 1) cx (aB' 4 (d :: r) body) n = jpi B (aj' B g) cx (aB' 4 (d :: r) body) n:=rfl;rcases sort_any h0 (g:=g) (by omega) n hn with ⟨m,h1,hm⟩ | h1
   ·have a1:=ih m (by omega) (by omega)
    cases h2:bt' B (aj' B g) (cx ++ [(d,none)]) (aB' 4 r body) m with
    | error e =>
     unfold bt';rw [hi];unfold jpi;rw [kd0,kd1,h1];simp only [bdJ];rw [h2];exact fun e' h=>a1 e' (by rw [h2]; exact h)
    | ok q1 =>
     obtain ⟨q1,m1⟩:=q1;have hr:=bS' hB g;have l1:=(cd' hB hr hcx k0 h1).2.2;have l2:=(cd' hB hr hcx' (by rw [bE']; exact k1.mono (by omega)) h2).2.2;have hm1:=(bu' hB hr h2).2.1;simp only at hm1 l1 l2;rcases max_alw l1 l2 with hx | hx
     ·refine lH' (k:=q1.1) (l:=oo' q0.2 q1.2) (m:=m1) ?_ (by omega)
      rw [hi];unfold jpi;rw [kd0,kd1,h1];simp only [bdJ];rw [h2];simp only;rw [if_neg (by omega)]
     ·unfold bt'
      rw [hi];unfold jpi;rw [kd0,kd1,h1];simp only [bdJ];rw [h2];simp only;rw [if_pos (by omega),hx];exact Alw.er (.inr (.inr (.inr rfl)))
   ·unfold bt'
    rw [hi];unfold jpi;rw [kd0,h1];exact Alw.er (.inl rfl)
theorem ez':∀ (l:List Tr) (cx:Ctx) (n:Nat) (q:Ctx × Nat),kk' B l cx n = .ok q -> ∀ (i:Nat) y,l[i]? = some y -> ∃ n0 n1 p,bx' B (cx ++ bJ' (l.take i)) y ((n0:Nat):Int) = .ok (p,n1)
 | [],cx,n,q,h,i,y,hy=>by simp at hy
 | x :: r,cx,n,q,h,i,y,hy=>by
  simp only [kk'] at h;obtain ⟨⟨p,m⟩,h1,h⟩:=an' h;cases i with
  | zero =>
   simp only [List.getElem?_cons_zero,Option.some.injEq] at hy;subst hy;refine ⟨n,m,p,?_⟩
   simpa [bJ'] using h1
  | succ i =>
   simp only [List.getElem?_cons_succ] at hy;obtain ⟨a,b,c,h2⟩:=ez' r _ _ _ h i y hy;refine ⟨a,b,c,?_⟩;rw [<- h2];simp [bJ']
end
section
variable {h1 h2 h3:Int -> Nd -> Option Tr}
mutual
theorem eR':∀ (x:Tr) (s:Md) (d nb:Int) (y:Tr),okT cnt nx x s -> (∀ q ∈ varsT x d nb,∀ n:Nd,n.op = 1 -> ah' n = true -> n.a = q.1 -> ∀ (nb:Int) u,h1 q.2 n = some u -> gT h2 u q.2 nb = h3 q.2 n) -> gT h1 x d nb = some y -> gT h2 y d nb = gT h3 x d nb
 | .mk n ks,s,d,nb,y,hx,H,e=>by
  have hp:=fu' (.mk n ks) s hx n (by simp [row]);obtain ⟨hc,hk⟩:=hx
  by_cases h:n.op = 1
  ·have e':h1 d n = some y:=by simpa [gT,h] using e
   have:=H (n.a,d) (by simp [varsT,h]) n h hp rfl nb y e'
   simpa [gT,h] using this
  ·simp only [gT,if_neg h] at e
   cases e1:gK h1 ks n nb 0 d with
   | none=>rw [e1] at e; cases e
   | some ks' =>
    rw [e1] at e;injection e with e
    subst e;have:=ra' ks n s nb 0 d 0 ks' hk (fun q hq=>H q (by simpa [varsT,h] using hq)) e1;simp only [gT,if_neg h];rw [this]
theorem ra':∀ (ks:List Tr) (n:Nd) (s:Md) (nb k d:Int) (j:Nat) (ks':List Tr),okL cnt nx ks n s j -> (∀ q ∈ varsK ks n nb k d,∀ n:Nd,n.op = 1 -> ah' n = true -> n.a = q.1 -> ∀ (nb:Int) u,h1 q.2 n = some u -> gT h2 u q.2 nb = h3 q.2 n) -> gK h1 ks n nb k d = some ks' -> gK h2 ks' n nb k d = gK h3 ks n nb k d
 | [],n,s,nb,k,d,j,ks',_,_,e=>by
  simp only [gK,Option.some.injEq] at e;subst e
  rfl
 | x :: r,n,s,nb,k,d,j,ks',hk,H,e=>by
  obtain ⟨hx,hr⟩:=hk;simp only [gK] at e;cases e1:gT h1 x (d + arC n nb k) n.b with
  | none=>rw [e1] at e; cases e
  | some y =>
   rw [e1] at e;simp only at e;cases e2:gK h1 r n nb (k + 1) d with
   | none=>rw [e2] at e; cases e
   | some r' =>
    rw [e2] at e;injection e with e
    subst e;have a1:=eR' x (nx s n j) (d + arC n nb k) n.b y hx (fun q hq=>H q (by simp [varsK,hq])) e1;have a2:=ra' r n s nb (k + 1) d (j + 1) r' hr (fun q hq=>H q (by simp [varsK,hq])) e2;simp only [gK];rw [a1,a2]
end
end
section
variable {h:Int -> Nd -> Option Tr} (e:Int)
mutual
theorem fz':∀ (x:Tr) (d nb:Int),gT (fun d n=>h (d + e) n) x d nb = gT h x (d + e) nb
 | .mk n ks,d,nb=>by
  simp only [gT];rw [nW' ks n nb 0 d]
theorem nW':∀ (ks:List Tr) (n:Nd) (nb k d:Int),gK (fun d n=>h (d + e) n) ks n nb k d = gK h ks n nb k (d + e)
 | [],_,_,_,_=>rfl
 | x :: r,n,nb,k,d=>by
  simp only [gK];rw [fz' x,nW' r,show d + arC n nb k + e = d + e + arC n nb k by omega]
end
end
theorem wt' {h:Int -> Nd -> Option Tr} {x:Tr} (hx:x.n.op ≠ 13) (d nb nb':Int):gT h x d nb = gT h x d nb':=by
 obtain ⟨n,ks⟩:=x;have hx:n.op ≠ 13:=hx;have hk:∀ (ks:List Tr) (k:Int),gK h ks n nb k d = gK h ks n nb' k d:=fun ks=>by
  induction ks with
  | nil=>intro k; rfl
  | cons y r ih=>intro k; simp only [gK,fc' hx,ih]
 simp only [gT,hk]
theorem gm' {n:Nd} (h1:n.op = 1) (hp:ah' n = true):0 <= n.a /\ n.a <= 1048576 /\ n.b = 0:=by
 have hn:inR n.a 0 1048576 = true /\ n.b = 0:=by simpa [ah',h1] using hp
 have:=aG'.1 hn.1;exact ⟨this.1,this.2,hn.2⟩
theorem di' {h:Int -> Nd -> Option Tr} {n:Nd} {ks:List Tr} {d nb:Int} (h1:n.op = 1):gT h (.mk n ks) d nb = h d n:=by simp [gT,h1]
theorem rb' {b d:Int} (hb:0 <= b /\ b <= 1000) (hd:0 <= d /\ d <= 500000):cm' (varX b) d = varX (b + d):=by
 unfold cm' al' gv' varX;rw [if_pos hd,di' rfl];unfold aH';rw [if_pos (by simp only; omega),if_neg (by simp only; omega)]
 rfl
theorem iB' {x:Tr} (hx:Ok .tm x) (hs:cB' x) {b:Int} (hb:0 <= b /\ b <= 1000):be' (al' x (b + 1) 1) (varX b) 0 = al' x b 0:=by
 have e1:=ax' hx hs (by_:=b + 1) (fr:=1) (by omega);have e2:=ax' hx hs (by_:=b) (fr:=0) (by omega);have ho:Ok .tm (al' x (b + 1) 1):=da' hx hs (by omega) (by omega);have e3:=aY' (u:=varX b) ho 0;have hc:=eR' (h2:=aD' (varX b) 0) (h3:=aH' b 0) x .tm 0 0 _ hx.1 (fun q hq n h1 hp hn nb u hu=>by
  obtain ⟨a0,a1,a2⟩:=gm' h1 hp;have hsq:=hs q hq;rw [<- hn] at hsq;unfold aH' at hu;split at hu
  ·rw [if_neg (by omega)] at hu
   injection hu with hu
   subst hu;rw [di' (by simpa using h1)];unfold aD' aH';simp only;rw [if_neg (by omega),if_pos (by omega),if_pos (by omega),if_neg (by omega)]
   congr 3
   omega
  ·injection hu with hu
   subst hu;rw [di' h1];unfold aD' aH'
   by_cases hd:n.a = 0 + q.2
   ·rw [if_pos hd,if_pos (by omega),if_neg (by omega),rb' hb (by omega)]
    unfold varX
    congr 2
    obtain ⟨o,a,c⟩:=n;simp only at h1 a2 hd ⊢;subst h1 a2
    congr 1
    omega
   ·rw [if_neg hd,if_neg (by omega),if_neg (by omega)]) e1
 rw [e3] at hc;have:gT (aH' b 0) x 0 0 = some (al' x b 0):=e2;rw [this] at hc;exact JB hc
def Sm (x:Tr):Prop:=∀ q ∈ varsT x 0 0,q.1 <= 400000 /\ 0 <= q.2
theorem Ft.sm {Q:Nd -> Prop} {N:Int} {x:Tr} (h:Ft Q N x) (hN:N <= 1000):Sm x:=fun q hq=>by
 have h1:=gY' x .tm 0 0 h.ok.1 (by omega) (by omega) (by omega) q hq;have h2:=h.bl q hq;have:=h.len;omega
theorem Sm.small {x:Tr} (h:Sm x):cB' x:=fun q hq=>by have:=h q hq; omega
def fA' (go:List Tr) (j:Nat) (d:Int) (n:Nd):Option Tr :=
 if n.a < d then some (.mk n []) else if n.a < d + (j:Int) then some (cm' (go.getD (j - 1 - (n.a - d).toNat) (varX 0)) d) else some (.mk { n with a:=max (n.a - (j:Int)) 0 } [])
theorem rc' {x:Tr} (hx:Ok .tm x) (hs:Sm x) {a b:Int} (ha:0 <= a /\ a <= 1000) (hb:0 <= b) (hab:b <= 500000) (hsm:∀ q ∈ varsT x 0 0,q.1 + b <= 1000000):gT (aH' b 0) (al' x a 0) 0 0 = some (al' x (a + b) 0) /\ gT (aH' (a + b) 0) x 0 0 = some (al' x (a + b) 0):=by
 have e1:=ax' hx hs.small (by_:=a) (fr:=0) (by omega);have hc:=eR' (h2:=aH' b 0) (h3:=aH' (a + b) 0) x .tm 0 0 _ hx.1 (fun q hq n h1 hp hn nb u hu=>by
  obtain ⟨a0,a1,a2⟩:=gm' h1 hp;have hsq:=hs q hq;have hsm:=hsm q hq;rw [<- hn] at hsq hsm;unfold aH' at hu;split at hu
  ·rw [if_neg (by omega)] at hu
   injection hu with hu
   subst hu;rw [di' (by simpa using h1)];unfold aH';simp only;rw [if_pos (by omega),if_neg (by omega),if_pos (by omega),if_neg (by omega)]
   congr 3
   omega
  ·injection hu with hu
   subst hu;rw [di' h1];unfold aH';rw [if_neg (by omega),if_neg (by omega)]) e1
 have hsome:(gT (aH' (a + b) 0) x 0 0).isSome = true:=jC' x .tm 0 0 hx.1 (fun q hq n h1 hn=>by
  have hsq:=hs q hq;have hsm:=hsm q hq;unfold aH';split
  ·rw [if_neg (by omega)]; rfl
  ·rfl)
 have e3:gT (aH' (a + b) 0) x 0 0 = some (al' x (a + b) 0):=by
  unfold al' gv';cases e:gT (aH' (a + b) 0) x 0 0 with
  | none=>rw [e] at hsome; cases hsome
  | some y=>rfl
 exact ⟨hc.trans e3,e3⟩
theorem rd' {x:Tr} (hx:Ok .tm x):x.n.op ≠ 13:=hx.n13
theorem sZ' {g:Tr} (hg:Ok .tm g) (hs:Sm g) (go:List Tr) {j:Nat} (hj:j <= 16) {d:Int} (hd:0 <= d /\ d <= 400000) (nb:Int):gT (fA' go j) (cm' (al' g j 0) d) d nb = some (cm' g d):=by
 have ho:Ok .tm (al' g (j:Int) 0):=da' hg hs.small (by omega) (by omega);obtain ⟨e1,e2⟩:=rc' hg hs (a:=(j:Int)) (b:=d) (by omega) hd.1 (by omega) (fun q hq=>by have:=hs q hq; omega);have hL:cm' (al' g (j:Int) 0) d = al' g ((j:Int) + d) 0:=by
  unfold cm';rw [if_pos ⟨hd.1,by omega⟩];show (gT (aH' d 0) (al' g (j:Int) 0) 0 0).getD _ = _;rw [e1]
  rfl
 have hR:=ax' hg hs.small (by_:=d) (fr:=0) (by omega);have hY:cm' g d = al' g d 0:=by unfold cm'; rw [if_pos ⟨hd.1,by omega⟩]
 have hoX:Ok .tm (al' g ((j:Int) + d) 0):=mX' (by_:=(j:Int) + d) (by omega) hg e2;rw [hL,hY,wt' (rd' hoX) d nb 0,show d = 0 + d by omega,<- fz' (h:=fA' go j) d,show (0:Int) + d = d by omega];refine (eR' (h2:=fun e n=>fA' go j (e + d) n) (h3:=aH' d 0) g .tm 0 0 _ hg.1 (fun q hq n h1 hp hn nb u hu=>?_) e2).trans hR;obtain ⟨a0,a1,a2⟩:=gm' h1 hp;have hsq:=hs q hq;rw [<- hn] at hsq;unfold aH' at hu;split at hu
 ·rw [if_neg (by omega)] at hu
  injection hu with hu
  subst hu;rw [di' (by simpa using h1)];unfold fA' aH';simp only;rw [if_neg (by omega),if_neg (by omega),if_pos (by omega),if_neg (by omega)]
  congr 3
  omega
 ·injection hu with hu
  subst hu;rw [di' h1];unfold fA' aH';rw [if_pos (by omega),if_neg (by omega)]
section
variable {h:Int -> Nd -> Option Tr}
mutual
theorem mG':∀ (x:Tr) (s:Md) (d nb:Int),okT cnt nx x s -> (∀ q ∈ varsT x d nb,∀ n:Nd,n.op = 1 -> ah' n = true -> n.a = q.1 -> h q.2 n = some (.mk n [])) -> gT h x d nb = some x
 | .mk n ks,s,d,nb,hx,H=>by
  have hp:=fu' (.mk n ks) s hx n (by simp [row]);obtain ⟨hc,hk⟩:=hx
  by_cases h1:n.op = 1
  ·have:ks = []:=List.length_eq_zero_iff.1 (gT' hc h1)
   subst this;rw [di' h1];exact H (n.a,d) (by simp [varsT,h1]) n h1 hp rfl
  ·simp only [gT,if_neg h1]
   rw [re' ks n s nb 0 d 0 hk (fun q hq=>H q (by simpa [varsT,h1] using hq))]
theorem re':∀ (ks:List Tr) (n:Nd) (s:Md) (nb k d:Int) (j:Nat),okL cnt nx ks n s j -> (∀ q ∈ varsK ks n nb k d,∀ n:Nd,n.op = 1 -> ah' n = true -> n.a = q.1 -> h q.2 n = some (.mk n [])) -> gK h ks n nb k d = some ks
 | [],n,s,nb,k,d,j,_,_=>rfl
 | x :: r,n,s,nb,k,d,j,hk,H=>by
  obtain ⟨hx,hr⟩:=hk;simp only [gK];rw [mG' x (nx s n j) (d + arC n nb k) n.b hx (fun q hq=>H q (by simp [varsK,hq])),re' r n s nb (k + 1) d (j + 1) hr (fun q hq=>H q (by simp [varsK,hq]))]
end
end
theorem nX' {x:Tr} (hx:Ok .tm x) (go:List Tr):gT (fA' go 0) x 0 0 = some x:=mG' x .tm 0 0 hx.1 fun q hq n h1 hp hn=>by
 obtain ⟨a0,a1,a2⟩:=gm' h1 hp;unfold fA';split
 ·rfl
 ·rw [if_neg (by omega),show max (n.a - ((0:Nat):Int)) 0 = n.a by omega]
theorem jk' {x u z:Tr} {v:Int} (h:aA' x u v = .ok z):z = be' x u v:=by
 unfold aA' at h;split at h
 ·cases h
 ·injection h with h
  exact h.symm
theorem nY' {Q:Nd -> Prop} (hQ:Qk Q) {N:Nat} (hN:N <= 100) {go:List Tr} (hgo:∀ y ∈ go,Ft Q (N:Int) y):∀ (j:Nat) (t z:Tr),j <= 16 -> j <= go.length -> Ft Q ((N + j:Nat):Int) t -> eh' go j t = .ok z -> gT (fA' go j) t 0 0 = some z
 | 0,t,z,_,_,ht,h=>by
  simp only [eh',Except.ok.injEq] at h;subst h;exact nX' ht.ok go
 | j + 1,t,z,hj,hl,ht,h=>by
  simp only [eh'] at h;obtain ⟨y,hy,_⟩:=af' (l:=go) (k:=j) (by omega);have hyD:go.getD j (varX 0) = y:=by simp [hy]
  have hyF:=hgo y (JQ hy);have hys:=hyF.sm (by omega);have hs:=ht.sm (by omega);have hFl:Ft Q ((N + j:Nat):Int) (al' y (j:Int) 0):=by
   have:=hyF.lift hQ (by omega) (b:=(j:Int)) (by omega) (by omega)
   rwa [show (N:Int) + (j:Int) = ((N + j:Nat):Int) by omega] at this
  rw [hyD] at h;cases e:aA' t (al' y (j:Int) 0) 0 with
  | error er=>rw [e] at h; cases h
  | ok t' =>
   rw [e] at h;have ht':=jk' e;have hF':=aR' hQ (N:=((N + j:Nat):Int)) (v:=0) (ht.mono (by omega)) hFl (by omega) (by omega) (by omega) (by omega) e;rw [Int.add_zero] at hF';have ih:=nY' hQ hN hgo j t' z (by omega) (by omega) hF' h;have e1:=aY' (u:=al' y (j:Int) 0) ht.ok 0;rw [<- ht'] at e1;refine (eR' (h2:=fA' go j) (h3:=fA' go (j + 1)) t .tm 0 0 _ ht.ok.1 (fun q hq n h1 hp hn nb u hu=>?_) e1).symm.trans ih;obtain ⟨a0,a1,a2⟩:=gm' h1 hp;have hsq:=hs q hq;rw [<- hn] at hsq;unfold aD' at hu;split at hu
   ·rename_i hd
    injection hu with hu
    subst hu;rw [Int.zero_add] at hd ⊢;rw [sZ' hyF.ok hys go (j:=j) (by omega) (d:=q.2) (by omega) nb];unfold fA';rw [if_neg (by omega),if_pos (by omega),show j + 1 - 1 - (n.a - q.2).toNat = j by omega,hyD]
   ·rename_i hd
    split at hu
    ·rename_i hd2
     injection hu with hu
     subst hu;rw [di' (by simpa using h1)];unfold fA';simp only;rw [if_neg (show ¬ n.a - 1 < q.2 by omega),if_neg (show ¬ n.a < q.2 by omega)]
     by_cases hlt:n.a - 1 < q.2 + (j:Int)
     ·rw [if_pos hlt,if_pos (by omega),show j - 1 - (n.a - 1 - q.2).toNat = j + 1 - 1 - (n.a - q.2).toNat by omega]
     ·rw [if_neg hlt,if_neg (by omega)]
      congr 3
      omega
    ·injection hu with hu
     subst hu;rw [di' h1];unfold fA';rw [if_pos (by omega),if_pos (by omega)]
theorem oG' {g v:Tr} (hg:Ok .tm g) (hs:Sm g) {d:Int} (hd:0 <= d /\ d <= 400000) (nb:Int):gT (aD' v 0) (cm' g (d + 1)) d nb = some (cm' g d):=by
 have e1:=ax' hg hs.small (by_:=d + 1) (fr:=0) (by omega);have hR:=ax' hg hs.small (by_:=d) (fr:=0) (by omega);have hY:cm' g d = al' g d 0:=by unfold cm'; rw [if_pos ⟨hd.1,by omega⟩]
 have hL:cm' g (d + 1) = al' g (d + 1) 0:=by unfold cm'; rw [if_pos ⟨by omega,by omega⟩]
 have hoX:Ok .tm (al' g (d + 1) 0):=da' hg hs.small (by omega) (by omega);rw [hL,hY,wt' (rd' hoX) d nb 0,show d = 0 + d by omega,<- fz' (h:=aD' v 0) d,show (0:Int) + d = d by omega];refine (eR' (h2:=fun e n=>aD' v 0 (e + d) n) (h3:=aH' d 0) g .tm 0 0 _ hg.1 (fun q hq n h1 hp hn nb u hu=>?_) e1).trans hR;obtain ⟨a0,a1,a2⟩:=gm' h1 hp;have hsq:=hs q hq;rw [<- hn] at hsq;unfold aH' at hu;split at hu
 ·rw [if_neg (by omega)] at hu
  injection hu with hu
  subst hu;rw [di' (by simpa using h1)];unfold aD' aH';simp only;rw [if_neg (by omega),if_pos (by omega),if_pos (by omega),if_neg (by omega)]
  congr 3
  omega
 ·injection hu with hu
  subst hu;rw [di' h1];unfold aD' aH';rw [if_neg (by omega),if_neg (by omega),if_neg (by omega)]
theorem ta' {Q:Nd -> Prop} {N:Nat} (hN:N <= 100) {go:List Tr} (hgo:∀ y ∈ go,Ft Q (N:Int) y) {j:Nat} (hj:j <= 16) (hl:j < go.length) {x y:Tr} (hx:Ok .tm x) (hs:Sm x) (hy:gT (fA' go j) x 1 0 = some y):gT (aD' (go.getD j (varX 0)) 0) y 0 0 = gT (fA' go (j + 1)) x 0 0:=by
 have hy':gT (fun d n=>fA' go j (d + 1) n) x 0 0 = some y:=by rw [fz' (h:=fA' go j) 1]; exact hy
 refine eR' (h2:=aD' (go.getD j (varX 0)) 0) (h3:=fA' go (j + 1)) x .tm 0 0 _ hx.1 (fun q hq n h1 hp hn nb u hu=>?_) hy';obtain ⟨a0,a1,a2⟩:=gm' h1 hp;have hsq:=hs q hq;rw [<- hn] at hsq;unfold fA' at hu;split at hu
 ·rename_i g1
  injection hu with hu
  subst hu;rw [di' h1];unfold aD' fA'
  by_cases hd:n.a = 0 + q.2
  ·rw [if_pos hd,if_neg (by omega),if_pos (by omega),show j + 1 - 1 - (n.a - q.2).toNat = j by omega,Int.zero_add]
  ·rw [if_neg hd,if_neg (by omega),if_pos (by omega)]
 ·rename_i g1
  split at hu
  ·rename_i g2
   injection hu with hu
   subst hu;obtain ⟨i,hi⟩:∃ i:Nat,i = j - 1 - (n.a - (q.2 + 1)).toNat:=⟨_,rfl⟩
   obtain ⟨z,hz,_⟩:=af' (l:=go) (k:=i) (by omega);have hzD:go.getD i (varX 0) = z:=by simp [hz]
   have hzF:=hgo z (JQ hz);rw [<- hi,hzD,oG' hzF.ok (hzF.sm (by omega)) (d:=q.2) (by omega) nb];unfold fA';rw [if_neg (by omega),if_pos (by omega),show j + 1 - 1 - (n.a - q.2).toNat = i by omega,hzD]
  ·injection hu with hu
   subst hu;rw [di' (by simpa using h1)];unfold aD' fA';simp only;rw [if_neg (by omega),if_pos (by omega),if_neg (by omega),if_neg (by omega)]
   congr 3
   omega
theorem rf' {Q:Nd -> Prop} {N:Int} {g:Tr} (hg:Ft Q N g) (hN:N <= 1000) (d:Int):Ok .tm (cm' g d):=jD' hg.ok (hg.small (by omega)) d
theorem tI' {Q:Nd -> Prop} {N:Nat} (hN:N <= 100) {go:List Tr} (hgo:∀ y ∈ go,Ft Q (N:Int) y) {j:Nat} (hl:j <= go.length) {x y:Tr} (hx:Ok .tm x) {d:Int} (hy:gT (fA' go j) x d 0 = some y):Ok .tm y /\ (x.n.op ≠ 1 -> y.n = x.n):=by
 refine pb' (fun d n z hp h1 hz=>?_) x .tm d 0 y hx hy;obtain ⟨a0,a1,a2⟩:=gm' h1 hp;unfold fA' at hz;split at hz
 ·injection hz with hz
  subst hz;exact gc' h1 a0 a1 a2
 ·rename_i g1
  split at hz
  ·rename_i g2
   injection hz with hz
   subst hz;obtain ⟨i,hi⟩:∃ i:Nat,i = j - 1 - (n.a - d).toNat:=⟨_,rfl⟩
   obtain ⟨z,hz,_⟩:=af' (l:=go) (k:=i) (by omega);have hzD:go.getD i (varX 0) = z:=by simp [hz]
   rw [<- hi,hzD];exact rf' (hgo z (JQ hz)) (by omega) d
  ·injection hz with hz
   subst hz;exact gc' (by simpa using h1) (by simp only; omega) (by simp only; omega) a2
end Go.Proofs.YtdfmgkaecdkhnaaGreat
