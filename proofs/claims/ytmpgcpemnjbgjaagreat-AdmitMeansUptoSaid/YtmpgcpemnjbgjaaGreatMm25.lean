import Derived.Test.YtmpgcpemnjbgjaaGreatMm24
set_option linter.unusedVariables false
set_option linter.unusedSimpArgs false
set_option maxRecDepth 100000
set_option maxHeartbeats 4000000
namespace Go.Proofs.YtmpgcpemnjbgjaaGreat
open Go.Wx Cd Tm Lv
def AlR (w':World) (bl:Nat) (B:BoT) (en:Int) (r:Except Int (Unit × Nat)):Prop:=jI' r (fun q=>LkC (Im [bl] w') w' bl B en q.2 0) (fun e'=>e' ≠ 0 /\ LkC (Im [bl] w') w' bl B en 0 e')
theorem nl' {B:BoT} {e:Int}:∀ (l:List Tr) (cx:Ctx) (n:Nat) (q:Ctx × Nat),CxOk B cx -> (∀ (i:Nat) y,l[i]? = some y -> Ft (QB B) ((cx.length + i:Nat):Int) y) -> hC' B e l cx n = .ok q -> CxOk B q.1
 | [],cx,n,q,hc,hl,h=>by cases h; exact hc
 | a :: r,cx,n,q,hc,hl,h=>by
  obtain ⟨p,_,h⟩:=an' h;split at h
  ·cases h
  split at h
  ·cases h
  refine nl' r _ _ q (hc.snoc (hl 0 a rfl) (by simp)) (fun i y hy=>?_) h;have:=hl (i + 1) y (by simpa using hy)
  rwa [show (cx ++ [(a,(none:Option Tr))]).length + i = cx.length + (i + 1) by simp; omega]
theorem qj' {B:BoT}:∀ (l:List Tr) (cx:Ctx) (n:Nat) (q:Ctx × Nat),CxOk B cx -> (∀ (i:Nat) y,l[i]? = some y -> Ft (QB B) ((cx.length + i:Nat):Int) y) -> kQ' B l cx n = .ok q -> CxOk B q.1
 | [],cx,n,q,hc,hl,h=>by cases h; exact hc
 | a :: r,cx,n,q,hc,hl,h=>by
  obtain ⟨p,_,h⟩:=an' h;refine qj' r _ _ q (hc.snoc (hl 0 a rfl) (by simp)) (fun i y hy=>?_) h;have:=hl (i + 1) y (by simpa using hy)
  rwa [show (cx ++ [(a,(none:Option Tr))]).length + i = cx.length + (i + 1) by simp; omega]
section
variable {w:World} {bl:Nat} {B:BoT} {en:Int}
theorem iw' {Y:List Nat} {w wn:World} (k:Kp [bl] w wn) (hbl:bl ∈ Y) (hY:∀ y ∈ Y,y = bl \/ w.heap.size <= y) {b o:Nat} {v:Value} (h:Im [bl] w b o v):Im Y wn b o v :=
 Im.kp k (fun y hy _ => by obtain rfl : y = bl := by simpa using hy
                           exact hbl) (Im.more (fun y hy=>(hY y hy).imp (fun h=>by simp [h]) id) h)
theorem LkC.less {X Y:List Nat} {w:World} {n:Nat} {er:Int} (h:LkC (Im X w) w bl B en n er) (hY:∀ y ∈ Y,y ∈ X):LkC (Im Y w) w bl B en n er:=h.mono fun _ _ _ h=>h.less hY
theorem LkC.more {X Y:List Nat} {w w':World} {n:Nat} {er:Int} (h:LkC (Im X w) w bl B en n er) (hY:∀ y ∈ Y,y ∈ X \/ w.heap.size <= y) (k:Kp [] w w'):LkC (Im Y w') w' bl B en n er:=(h.mono fun _ _ _ h=>Im.more hY h).tr k
theorem TlC.more {X Y:List Nat} {w w':World} {bt:Nat} {cx:Ctx} (h:TlC (Im X w) w bt bl cx) (hY:∀ y ∈ Y,y ∈ X \/ w.heap.size <= y) (k:Kp [] w w'):TlC (Im Y w') w' bt bl cx:=(h.mono fun _ _ _ h=>Im.more hY h).tr k
theorem tU' (hf:cD' B en = 0) {n0:Nat} (hL:LkC (Im [bl] w) w bl B en n0 0) :
  CC 31 #[pt bl] w (fun e w'=>(∃ v,e = .returned v) /\ AlR w' bl B en (vi' B en n0) /\ Kp [bl] w w'):=by
 refine oF Tryz.func31 ?_;obtain ⟨RES,hRES⟩:∃ r,vi' B en n0 = r:=⟨_,rfl⟩
 rw [hRES];unfold vi' at hRES;obtain ⟨hR,hB,h0,h1,hx,s,ps,qi,hF⟩:=rS' hf;have hi:((en.toNat:Nat):Int) = en:=by omega
 obtain ⟨e1,e2,e3⟩:=hF.ps_eq hx;rw [hi] at e1 e2 e3;rw [e1,e2,e3] at hRES;have hlp:=hF.lp;have hli:=hF.li;have hlc:=hF.lc;have hsF:Ft (QB B) 0 s:=hF.fs.wk fun m hm=>cV' (Nat.le_of_lt (ai' hx)) hm;have hpF:∀ (i:Nat) y,ps[i]? = some y -> Ft (QB B) (i:Int) y:=fun i y hy=>hF.up_p hB hx hy;have hqF:∀ (i:Nat) y,qi[i]? = some y -> Ft (QB B) ((ps.length + i:Nat):Int) y:=fun i y hy=>hF.up_i hB hx hy;have hnp:(entD B en).params.length <= 16 /\ (entD B en).indices.length <= 16:=by
  rw [hF.params,hF.indices];simp;omega
 have hbl:=hL;obtain ⟨v1,v2,v3,hl,hO,hE,hP⟩:=hL;obtain ⟨be,oe,ce,rfl,u1,u2,u3,u4,u5,u6,hcs,s1,s2,s3,s4,s5,s6⟩:=jz' (e:=en) hE h0 h1;have hone:=ni' s1 s2 s3 s4 s5 s6;have hEn:EnV (Im [bl] w) (entD B en) (.agg #[iV (entD B en).kind,u1,u2,u3,u4,u5,u6]):=⟨_,_,_,_,_,_,rfl,s1,s2,s3,s4,s5,s6⟩
 have s1':=s1;rw [hF.sort] at s1';have s1':TmV (Im [bl] w) s u1:=s1';obtain ⟨asr,csr,rfl,_,_⟩:=id s1';have s2':=s2;rw [hF.params] at s2';have s2':=TmsV.sv.2 s2';obtain ⟨ap,cp,rfl,_,_⟩:=id s2';have s3':=s3;rw [hF.indices] at s3';have s3':=TmsV.sv.2 s3';obtain ⟨aq,cq,rfl,_,_⟩:=id s3';obtain ⟨ac,cc,rfl⟩:=s4.len;refine cO (args:=[_]) 91 [] τok Tryz.func31 ?_;refine am' τok (fun z=>Kp [] w z) ?_;refine rV τok (rg 0 11) 2 (mR 13 11) (kQd w) ?_;refine lk hl ?_;refine lk hl ?_;refine ix en.toNat (by omega) (by omega) ?_;refine aO' [iV (entD B en).kind,.slice asr (row s).length csr,.slice ap ps.length cp,.slice aq qi.length cq,.slice ac (entD B en).ctors.length cc,u5,u6] rfl (fun j u hj=>(hcs j u hj).1) ?_;refine nV τok 11 1 (mR 13 12) ?_;refine new fun b2 w1 hb2 h2 hs1 hk1=>?_;have hk1:Kp [] w w1:=hk1.rd;have hb2:b2 = w.heap.size:=hb2;refine ⟨.inl hk1,?_⟩;refine nV τok 12 0 (mR 13 13) ?_;refine stN (vs:=[iV (entD B en).kind,.slice asr (row s).length csr,.slice ap ps.length cp,.slice aq qi.length cq,.slice ac (entD B en).ctors.length cc,u5,u6]) h2 rfl hone fun w2 h2 hs2 hk2=>?_;have k02:Kp [] w w2:=hk1.newSt hb2 hk2;refine ⟨.inr (by kernel_rfl),?_⟩;refine dV ?_;have hL2:=hbl.tr k02;have hbw:=hl.lt;have hX2:∀ b ∈ [bl],b < w2.heap.size:=fun b hb=>by
  obtain rfl:b = bl:=by simpa using hb
  exact Nat.lt_of_lt_of_le hbw k02.size
 obtain ⟨w1',w2',w3',hl2,hO2,hE2,hP2⟩:=id hL2;have hs2':TmV (Im [bl] w2) s (.slice asr (row s).length csr):=s1'.mono fun _ _ _ h=>h.tr k02;refine am' τok (fun z=>Kp [] w2 z) ?_;refine rV τok (rg 0 10) 8 (mR 18 10) (kQd w2) ?_;refine aO' [iV B.vars,w1',w2',iV B.nat,w3'] rfl (fun j u hj=>by
  refine hl2.cl ?_;rw [Nat.zero_add]
  match j,hj with
  | 0,hj=>exact hj
  | 1,hj=>exact hj
  | 2,hj=>exact hj
  | 3,hj=>exact hj
  | 4,hj=>exact hj
  | j + 5,hj=>cases hj) ?_
 refine lk h2 ?_;refine lk hl2 ?_;refine nV τok 10 7 (mR 18 11) ?_;refine ab' (tK' (w:=(dr w2)) (X:=[bl]) (cx:=[]) (fuel:=(n0:Int)) hB (fun i q hq=>by simp at hq) (by simp) hX2 hsF ⟨w1',w2',w3',rfl,hO2,hE2,hP2⟩ (SV.nil _ _) hs2') ?_;rintro e w3 ⟨he,hk3⟩;have hk3:Kp [] w2 w3:=hk3.rd;have k03:=k02.tr hk3;have h2:=h2.kp hk3 (by simp);have hL3:=hL2.tr hk3;have hb2n:b2 ≠ bl:=by omega
 have fin:∀ {wn:World} {X:List Nat} {n:Nat} {er:Int},bl ∈ X -> LkC (Im X wn) wn bl B en n er -> LkC (Im [bl] wn) wn bl B en n er:=fun hb h=>h.less fun y hy=>by
  obtain rfl:y = bl:=by simpa using hy
  exact hb
 cases ht:ft' B [] s (n0:Int) with
 | error er =>
  rw [ht] at he hRES;have hRES:.error er = RES:=hRES;subst hRES;obtain rfl:=he;have her:er ≠ 0:=(bl' hB GJ).er _ _ _ _ ht;refine ⟨.inl hk3,?_⟩;refine rV τok (rg 11 7) 0 (mR 18 18) hk3 ?_;refine dV ?_;refine new fun b6 w4 hb6 h6 hs4 hk4=>?_;refine ab' (gT' (X:=[bl]) (hL3.tr hk4) (by simp) 0 er) ?_;rintro r w5 ⟨rfl,hL5,k45⟩;refine cS' (fun h=>absurd h her) (fun _=>?_);exact ⟨⟨_,rfl⟩,⟨her,hL5⟩,((k03.tr hk4).weak (by simp)).tq k45⟩
 | ok q =>
 rw [ht] at he hRES;have hRES:(bdJ (kQ' B ps [] q.2) fun cp n=>bdJ (kQ' B qi cp n) fun _ n=>ee' B en cp (entD B en).ctors n) = RES:=hRES;obtain ⟨ut,rfl,hut⟩:=he;obtain ⟨aut,cut,rfl,_,_⟩:=id hut;refine ⟨.inl hk3,?_⟩;refine rV τok (rg 11 7) 0 (mR 18 18) hk3 ?_;refine dV ?_;refine new fun b6 w4 hb6 h6 hs4 hk4=>?_;have h6:Bk w4.heap b6 [pt bl,.slice none 0 0] 108:=h6;have l3:=k03.size;have l2:=k02.size;have hs2b:w.heap.size < w2.heap.size:=by
  have:=h2.lt;have:=hk1.size;omega
 have l23:=hk3.size;have hL4:LkC (Im [b6,bl] w4) w4 bl B en n0 0:=hL3.more (fun y hy=>by simp at hy; rcases hy with rfl | rfl; exact .inr (by omega); exact .inl (by simp)) hk4;have k04:=k03.tr hk4;refine ab' (gT' hL4 (by simp) q.2 0) ?_;rintro r w5 ⟨rfl,hL5,k45⟩;have k05:Kp [bl] w w5:=(k04.weak (by simp)).tq k45;have h65:=h6.kp k45 (by simp; omega);have h25:=(h2.kp hk4 (by simp)).kp k45 (by simp; omega);have hT5:TlC (Im [b6,bl] w5) w5 b6 bl []:=⟨_,h65,SV.nil _ _⟩
 have l5:=k05.size;have hb6l:=h65.lt;have hX5:∀ b ∈ [b6,bl],b < w5.heap.size:=fun b hb=>by
  simp at hb;rcases hb with rfl | rfl
  ·exact hb6l
  ·omega
 have hY6:∀ y ∈ [b6,bl],y = bl \/ w.heap.size <= y:=fun y hy=>by
  simp at hy;rcases hy with rfl | rfl
  ·exact .inr (by omega)
  ·exact .inl rfl
 have hp5:TmsV (Im [b6,bl] w5) ps (.slice ap ps.length cp):=s2'.mono fun _ _ _ h=>iw' k05 (by simp) hY6 h;refine lb h25 ?_;refine ab' (qg' hB (cx0:=[]) (n0:=q.2) (ys:=ps) (fun i q hq=>by simp at hq) (by simp; omega) hX5 (by simp) (by simp) (by omega) hL5 hT5 (fun i y hy=>by simpa using hpF i y hy) hp5) ?_;rintro e w6 ⟨he,k56⟩;have k06:Kp [bl] w w6:=k05.trans k56 fun x hx hl=>by
  simp at hx;rcases hx with rfl | rfl
  ·simp
  ·omega
 have h26:=h25.kp k56 (by simp; omega);cases hA:kQ' B ps [] q.2 with
 | error er =>
  rw [hA] at he hRES;have hRES:.error er = RES:=hRES;subst hRES;obtain ⟨rfl,her,hL6⟩:=he;exact ⟨⟨_,rfl⟩,⟨her,fin (by simp) hL6⟩,k06⟩
 | ok q2 =>
 obtain ⟨cp0,n2⟩:=q2;rw [hA] at he hRES;have hRES:(bdJ (kQ' B qi cp0 n2) fun _ n=>ee' B en cp0 (entD B en).ctors n) = RES:=hRES;obtain ⟨rfl,hL6,hT6⟩:=he;have hcp:CxOk B cp0:=qj' ps [] q.2 (cp0,n2) (fun i q hq=>by simp at hq) (fun i y hy=>by simpa using hpF i y hy) hA;have hcl:cp0.length = ps.length:=by
  have:=qb' _ _ _ _ hA;simp only [List.nil_append] at this;rw [this];simp
 obtain ⟨_,ht6,hc6⟩:=id hT6;obtain ⟨a6,c6,rfl,_,_⟩:=id hc6;refine lb ht6 ?_;refine new fun b7 w7 hb7 h7 hs7 hk7=>?_;have h7:Bk w7.heap b7 [pt bl,(.slice a6 (cp0.map bdR).length c6)] 108:=h7;have k07:=k06.tr hk7;have l6:=k06.size;have hb6l6:=ht6.lt;have hL7:LkC (Im [b7,b6,bl] w7) w7 bl B en n2 0:=hL6.more (fun y hy=>by simp at hy; rcases hy with rfl | rfl | rfl; exact .inr (by omega); exact .inl (by simp); exact .inl (by simp)) hk7;have hT67:TlC (Im [b7,b6,bl] w7) w7 b6 bl cp0:=hT6.more (fun y hy=>by simp at hy; rcases hy with rfl | rfl | rfl; exact .inr (by omega); exact .inl (by simp); exact .inl (by simp)) hk7;have hT7:TlC (Im [b7,b6,bl] w7) w7 b7 bl cp0:=by
  obtain ⟨vc7,ht7,hc7⟩:=hT67;have:vc7 = (.slice a6 (cp0.map bdR).length c6):=by
   have e:=(ht6.kp hk7 (by simp)).symm.trans ht7
   simpa using e.symm
  subst this;exact ⟨_,h7,hc7⟩
 have hb7l:=h7.lt;have hX7:∀ b ∈ [b7,b6,bl],b < w7.heap.size:=fun b hb=>by
  have:=hk7.size;simp at hb;rcases hb with rfl | rfl | rfl
  ·exact hb7l
  ·omega
  ·omega
 have hY7:∀ y ∈ [b7,b6,bl],y = bl \/ w.heap.size <= y:=fun y hy=>by
  simp at hy;rcases hy with rfl | rfl | rfl
  ·exact .inr (by omega)
  ·exact .inr (by omega)
  ·exact .inl rfl
 have hq7:TmsV (Im [b7,b6,bl] w7) qi (.slice aq qi.length cq):=s3'.mono fun _ _ _ h=>iw' k07 (by simp) hY7 h;have h27:=h26.kp hk7 (by simp);refine lb h27 ?_;refine ab' (qg' hB (cx0:=cp0) (n0:=n2) (ys:=qi) hcp (by omega) hX7 (by simp) (by simp) (by omega) hL7 hT7 (fun i y hy=>by rw [hcl]; exact hqF i y hy) hq7) ?_;rintro e w8 ⟨he,k78⟩;have k08:Kp [bl] w w8:=k07.trans k78 fun x hx hl=>by
  simp at hx;rcases hx with rfl | rfl
  ·simp
  ·omega
 have h28:=h27.kp k78 (by simp; omega);cases hI:kQ' B qi cp0 n2 with
 | error er =>
  rw [hI] at he hRES;have hRES:.error er = RES:=hRES;subst hRES;obtain ⟨rfl,her,hL8⟩:=he;exact ⟨⟨_,rfl⟩,⟨her,fin (by simp) hL8⟩,k08⟩
 | ok q3 =>
 obtain ⟨cq0,n3⟩:=q3;rw [hI] at he hRES;have hRES:ee' B en cp0 (entD B en).ctors n3 = RES:=hRES;obtain ⟨rfl,hL8,_⟩:=he;have hT8:TlC (Im [b6,bl] w8) w8 b6 bl cp0:=((hT67.mono fun b o v h=>Im.kp k78 (fun y hy _=>by simp at hy ⊢; omega) h).kp k78 (by simp; omega)).mono fun _ _ _ h=>h.less fun y hy=>by simp at hy ⊢; omega
 have hL8':LkC (Im [b6,bl] w8) w8 bl B en n3 0:=hL8.less fun y hy=>by simp at hy ⊢; omega
 refine lb h28 ?_;refine loop τok (σ:=Nat × Nat) (fun q=>[(0,pt bl),(2,pt b2),(6,pt b6),(65,.slice ac (entD B en).ctors.length cc),(66,iV ((entD B en).ctors.length:Int)),(67,iV (q.1:Int))])
  (fun q w'=>q.1 <= (entD B en).ctors.length /\ RES = ee' B en cp0 ((entD B en).ctors.drop q.1) q.2 /\ LkC (Im [b6,bl] w') w' bl B en q.2 0 /\ TlC (Im [b6,bl] w') w' b6 bl cp0 /\ Kp [bl] w8 w') (fun q=>(entD B en).ctors.length - q.1) (0,n3) ⟨rfl,rfl,rfl,rfl,rfl,rfl,trivial⟩
  ⟨Nat.zero_le _,hRES.symm,hL8',hT8,Kp.refl _ _⟩ ?_
 rintro ⟨k,n⟩ w9 ⟨hk,hr,hL9,hT9,k89⟩;simp only at hk hr hL9 hT9;have k09:Kp [bl] w w9:=k08.tq k89;refine ac' (fun c=>?_) (fun c=>?_)
 ·have hlt:k < (entD B en).ctors.length:=by
   have:(k:Int) < (entD B en).ctors.length:=c;omega
  obtain ⟨ct,hct,hd⟩:=af' hlt;rw [hd] at hr;simp only [ee'] at hr;obtain ⟨ga,go,hC⟩:=hF.ct k ct hct;have hla:=hC.la;have hlo:=hC.lo;have hgaF:∀ (i:Nat) y,ga[i]? = some y -> Ft (QB B) ((ps.length + i:Nat):Int) y:=fun i y hy=>hC.up_a hx hF.kind hy;have hgoF:∀ y ∈ go,Ft (QB B) ((ps.length + ga.length:Nat):Int) y:=fun y hy=>hC.up_o hx hF.kind hy;have hga:ct.args.map tr = ga:=iu' hC.args (fun y hy=>by
   obtain ⟨j,hj⟩:=List.getElem?_of_mem hy;exact (hC.fa j y hj).ok)
  have hgo:ct.out.map tr = go:=iu' hC.out (fun y hy=>(hC.fo y hy).ok);have hal:ct.args.length = ga.length:=by rw [hC.args]; simp
  rw [hga,hgo,hal] at hr;obtain ⟨bc,oc,cc',e1,hca⟩:=s4.at hct;injection e1 with e1 _ e2
  subst e1 e2;obtain ⟨va,vo,hccs,hva,hvo⟩:=iX' hca;have hone2:∀ v ∈ [va,vo],v.oneCell' = true:=fun v hv=>by
   simp at hv;rcases hv with rfl | rfl
   ·exact hva.one
   ·exact hvo.one
  have hCt:CtV (Im [bl] w) ct (.agg #[va,vo]):=⟨va,vo,rfl,hva,hvo⟩
  have im9:∀ b o v,Im [bl] w b o v -> Im [bl] w9 b o v:=fun b o v h=>Im.kb k09 (by simp) b o v h;have h29:=h28.kp k89 (by simp; omega);have l9:=k09.size;obtain ⟨_,ht9,hc9⟩:=id hT9;obtain ⟨a9,c9,rfl,_,_⟩:=id hc9;have hb6l9:=ht9.lt;refine ix k rfl hlt ?_;refine ldN [va,vo] rfl (fun j v hj=>(im9 _ _ _ (hccs j v hj)).1) ?_;refine new fun b9 wA hb9 h9 hsA hkA=>?_;refine stN (vs:=[va,vo]) h9 rfl hone2 fun wB h9 hsB hkB=>?_;have k9B:Kp [] w9 wB:=hkA.newSt hb9 hkB;have hTB:=hT9.tr k9B;have htB:=ht9.kp k9B (by simp);refine lb htB ?_;refine new fun b10 wC hb10 h10 hsC hkC=>?_;have h10:Bk wC.heap b10 [pt bl,(.slice a9 (cp0.map bdR).length c9)] 108:=h10;have k9C:=k9B.tr hkC;have k0C:Kp [bl] w wC:=k09.tr k9C;have lB:=k9B.size;have hlA:w9.heap.size <= b9 /\ b9 < b10:=by
   have hb9:b9 = w9.heap.size:=hb9;have hb10:b10 = wB.heap.size:=hb10;have:=h9.lt;omega
  have hLC:LkC (Im [b10,b6,bl] wC) wC bl B en n 0:=(hL9.tr k9B).more (fun y hy=>by simp at hy; rcases hy with rfl | rfl | rfl; exact .inr (by omega); exact .inl (by simp); exact .inl (by simp)) hkC;have hTCb:TlC (Im [b10,b6,bl] wC) wC b6 bl cp0:=hTB.more (fun y hy=>by simp at hy; rcases hy with rfl | rfl | rfl; exact .inr (by omega); exact .inl (by simp); exact .inl (by simp)) hkC;have hTC:TlC (Im [b10,b6,bl] wC) wC b10 bl cp0:=by
   obtain ⟨vc7,ht7,hc7⟩:=id hTCb;have:vc7 = (.slice a9 (cp0.map bdR).length c9):=by
    have e:=(htB.kp hkC (by simp)).symm.trans ht7
    simpa using e.symm
   subst this;exact ⟨_,h10,hc7⟩
  have hb10l:=h10.lt;have lC:=k9C.size;have hXC:∀ b ∈ [b10,b6,bl],b < wC.heap.size:=fun b hb=>by
   simp at hb;rcases hb with rfl | rfl | rfl
   ·exact hb10l
   ·omega
   ·omega
  have hYC:∀ y ∈ [b10,b6,bl],y = bl \/ w.heap.size <= y:=fun y hy=>by
   simp at hy;rcases hy with rfl | rfl | rfl
   ·exact .inr (by omega)
   ·exact .inr (by omega)
   ·exact .inl rfl
  have h2C:=h29.kp k9C (by simp);have h9C:=h9.kp hkC (by simp);have hEC:EnV (Im [b10,b6,bl] wC) (entD B en) (.agg #[iV (entD B en).kind,.slice asr (row s).length csr,.slice ap ps.length cp,.slice aq qi.length cq,.slice (some ⟨bc,oc,none⟩) (entD B en).ctors.length cc,u5,u6]):=hEn.mono fun _ _ _ h=>iw' k0C (by simp) hYC h;have hCC:CtV (Im [b10,b6,bl] wC) ct (.agg #[va,vo]):=hCt.mono fun _ _ _ h=>iw' k0C (by simp) hYC h;refine ldN [iV (entD B en).kind,.slice asr (row s).length csr,.slice ap ps.length cp,.slice aq qi.length cq,.slice (some ⟨bc,oc,none⟩) (entD B en).ctors.length cc,u5,u6] rfl (bZ h2C) ?_;refine ldN [va,vo] rfl (bZ h9C) ?_;refine ab' (rU' hB (cx0:=cp0) (n0:=n) (ys:=ga) hcp hla (by omega) hXC (by simp) (by simp) (by omega) hLC hTC (fun i y hy=>by rw [hcl]; exact hgaF i y hy) hsF hF.s2 hF.sort ⟨h0,h1⟩ hnp hC.args hEC hCC) ?_;rintro e wD ⟨he,kCD⟩;have k0D:Kp [bl] w wD:=k0C.trans kCD fun x hx hl=>by
   simp at hx;rcases hx with rfl | rfl
   ·simp
   ·omega
  have k9D:Kp [bl] w9 wD:=(k9C.weak (by simp)).trans kCD fun x hx hl=>by
   simp at hx;rcases hx with rfl | rfl
   ·simp
   ·omega
  cases hAr:hC' B en ga cp0 n with
  | error er =>
   rw [hAr] at he hr;have hr:RES = .error er:=hr;subst hr;obtain ⟨rfl,her,hLD⟩:=he;exact ⟨⟨_,rfl⟩,⟨her,fin (by simp) hLD⟩,k0D⟩
  | ok q4 =>
  obtain ⟨cx4,n4⟩:=q4;rw [hAr] at he hr;have hr:RES = bdJ (qz' B en go ga.length cx4 go 0 n4) fun _ n=>ee' B en cp0 ((entD B en).ctors.drop (k + 1)) n:=hr;obtain ⟨rfl,hLD,hTD⟩:=he;have hcx4:CxOk B cx4:=nl' ga cp0 n (cx4,n4) hcp (fun i y hy=>by rw [hcl]; exact hgaF i y hy) hAr;have hcl4:cx4.length = ps.length + ga.length:=by
   have:=nh' _ _ _ _ hAr;simp only at this;rw [this];simp [hcl]
  have hXD:∀ b ∈ [b10,b6,bl],b < wD.heap.size:=xU hXC kCD;have h2D:=h2C.kp kCD (by simp; omega);have h9D:=h9C.kp kCD (by simp; omega);have hED:EnV (Im [b10,b6,bl] wD) (entD B en) (.agg #[iV (entD B en).kind,.slice asr (row s).length csr,.slice ap ps.length cp,.slice aq qi.length cq,.slice (some ⟨bc,oc,none⟩) (entD B en).ctors.length cc,u5,u6]):=hEn.mono fun _ _ _ h=>iw' k0D (by simp) hYC h;have hCD:CtV (Im [b10,b6,bl] wD) ct (.agg #[va,vo]):=hCt.mono fun _ _ _ h=>iw' k0D (by simp) hYC h;refine ldN [iV (entD B en).kind,.slice asr (row s).length csr,.slice ap ps.length cp,.slice aq qi.length cq,.slice (some ⟨bc,oc,none⟩) (entD B en).ctors.length cc,u5,u6] rfl (bZ h2D) ?_;refine ldN [va,vo] rfl (bZ h9D) ?_;refine ab' (tT' hB (cx:=cx4) (n0:=n4) hcx4 hXD (by simp) (by simp) (by omega) hLD hTD (qi:=qi) (ga:=ga) (go:=go) (np:=ps.length) hcl4 hlp hla hqF hgoF hli hlo hF.indices e2 hC.args hC.out hED hCD) ?_;rintro e wE ⟨he,kDE⟩;have k0E:Kp [bl] w wE:=k0D.tq kDE;have k9E:Kp [bl] w9 wE:=k9D.tq kDE;cases hOu:qz' B en go ga.length cx4 go 0 n4 with
  | error er =>
   rw [hOu] at he hr;have hr:RES = .error er:=hr;subst hr;obtain ⟨rfl,her,hLE⟩:=he;exact ⟨⟨_,rfl⟩,⟨her,fin (by simp) hLE⟩,k0E⟩
  | ok q5 =>
  rw [hOu] at he hr;have hr:RES = ee' B en cp0 ((entD B en).ctors.drop (k + 1)) q5.2:=hr;obtain ⟨rfl,hLE⟩:=he;have hTE:TlC (Im [b6,bl] wE) wE b6 bl cp0:=hT9.kb k9E (by simp) (by omega);refine i6 ?_;exact ⟨(k + 1,q5.2),by simp only; omega,rfl,⟨rfl,rfl,rfl,rfl,rfl,rfl,trivial⟩,hlt,hr,hLE.less fun y hy=>by simp at hy ⊢; omega,hTE,k89.tq k9E⟩
 ·have c:¬ (k:Int) < (entD B en).ctors.length:=c
  rw [List.drop_eq_nil_of_le (by omega)] at hr;subst hr;exact ⟨⟨_,rfl⟩,fin (by simp) hL9,k09⟩
theorem lW' {C:Mem} (hS:Sub C w) (hold:∀ b o v,C b o v -> b < w.heap.size) {vb:Value} (hvb:BoV C B vb) (fuel:Int) :
  CC 12 #[vb,iV en,iV fuel] w (fun e w'=>jI' (it' B en fuel) (fun q=>e = .returned (.tuple #[iV (q.2:Int),iV 0])) (fun er=>e = .returned (.tuple #[iV 0,iV er]) /\ er ≠ 0) /\ Kp [] w w'):=by
 refine oF Tryz.func12 ?_;obtain ⟨RES,hRES⟩:∃ r,it' B en fuel = r:=⟨_,rfl⟩
 rw [hRES];unfold it' at hRES;have hvv:=hvb;obtain ⟨v1,v2,v3,rfl,hO,hE,hP⟩:=hvb;refine cO (args:=[_,_,_]) 33 [.tmp 6,.tmp 7] τok Tryz.func12 ?_;refine new fun b3 w1 hb3 h3 hs1 hk1=>?_;have h3:Bk w1.heap b3 [iV B.vars,v1,v2,iV B.nat,v3] 26:=h3;refine ldN [iV B.vars,v1,v2,iV B.nat,v3] rfl (bZ h3) ?_;refine ab' (tR' (hS.tr hk1) (Kp.hold hk1 hold) hvv en) ?_;rintro r w2 ⟨rfl,hk2⟩;have k02:=hk1.tr hk2;have h3:=h3.kp hk2 (by simp)
 by_cases g:cD' B en ≠ 0
 ·rw [if_pos g] at hRES
  subst hRES;refine ar' g ?_;exact ⟨⟨rfl,g⟩,k02⟩
 rw [if_neg g] at hRES;refine bf' g ?_;refine ldN [iV B.vars,v1,v2,iV B.nat,v3] rfl (bZ h3) ?_;refine jQ' ?_;refine jR' ?_;obtain ⟨n,hn,hn1⟩:∃ n:Nat,min (max fuel 0) 100000 = (n:Int) /\ ax' fuel = n:=⟨_,by unfold ax'; omega,rfl⟩
 rw [hn];rw [hn1] at hRES;refine new fun bl w3 hbl hL hs3 hk3=>?_;have hL:Bk w3.heap bl [iV B.vars,v1,v2,iV B.nat,v3,iV en,iV (n:Int),iV 0] 74:=hL;have k03:=k02.tr hk3;have hbl:bl = w2.heap.size:=hbl;have l2:=k02.size;have up:∀ b o v,C b o v -> Im [bl] w3 b o v:=fun b o v h=>⟨hS.tr k03 _ _ _ h,fun hm=>by
  have:=hold _ _ _ h;simp at hm;omega⟩
 have hLk:LkC (Im [bl] w3) w3 bl B en n 0:=⟨v1,v2,v3,hL,hO.mono up,hE.mono up,hP.mono up⟩
 refine ab' (tU' (Decidable.not_not.1 g) hLk) ?_;rintro e w4 ⟨⟨v,rfl⟩,hA,k34⟩;have k04:Kp [] w w4:=k03.trans k34 fun x hx hl=>by
  simp at hx;omega
 cases hr:vi' B en n with
 | error er =>
  rw [hr] at hA hRES;subst hRES;obtain ⟨her,w1',w2',w3',hl4,_⟩:=hA;refine am' τok (fun z=>Kp [] w4 z) ?_;refine rV τok (rg 0 10) 0 (mR 10 10) (kQd w4) ?_;refine lk hl4 ?_;refine lk hl4 ?_;refine dV ?_;exact ⟨⟨rfl,her⟩,k04.dr _⟩
 | ok q =>
  rw [hr] at hA hRES;subst hRES;obtain ⟨w1',w2',w3',hl4,_⟩:=hA;refine am' τok (fun z=>Kp [] w4 z) ?_;refine rV τok (rg 0 10) 0 (mR 10 10) (kQd w4) ?_;refine lk hl4 ?_;refine lk hl4 ?_;refine dV ?_;exact ⟨rfl,k04.dr _⟩
end
def ay' (op a b:Int) (ks:List (List Nd)):List Nd:=⟨op,a,b⟩ :: ks.flatten
def bQ':List Nd -> List (List Nd) -> List Nd
 | f,[]=>f
 | f,a :: r=>bQ' (ay' 6 0 0 [f,a]) r
def nL (m:Int):List Nd:=[⟨9,m,0⟩]
def vL (i:Int):List Nd:=[⟨1,i,0⟩]
def cL (m k:Int):List Nd:=[⟨10,m,k⟩]
def kT' (m:Int):List Nd:=ay' 4 0 0 [nL m,ay' 4 0 0 [nL m,nL m]]
def bB' (m:Int) (b:List Nd):List Nd:=ay' 5 0 0 [nL m,b]
def ef' (m:Int) (t z x:List Nd):List Nd:=ay' 11 m 2 [bB' m (nL m),t,z,x]
def tV' (m:Int) (b:List Nd):List Nd:=ay' 12 0 1 [ay' 13 0 0 [kT' m,bB' m (bB' m b)]]
def RV (w:World) (l:List Nd) (v:Value):Prop:=SV rNd (Im [] w) l v
def RwN (w:World) (l:List Nd) (e:Ending) (w':World):Prop:=(∃ v,e = .returned v /\ SV rNd (New w.heap.size w') l v) /\ Kp [] w w'
def RwP (w:World) (l:List Nd) (e:Ending) (w':World):Prop:=(∃ v,e = .returned v /\ RV w' l v) /\ Kp [] w w'
section
variable {w w':World} {l:List Nd} {v:Value}
theorem RV.tr (h:RV w l v) (k:Kp [] w w'):RV w' l v:=SV.mono h fun _ _ _ h=>h.tr k
theorem Own.rv {e:Nat} {w0:World} (h:Own rNd e w0.heap.size w v l) (hl:l.length <= 1000000):RV w l v:=by
 obtain ⟨a1,c1,hv1,hcap⟩:=h.cap;obtain ⟨a2,c2,hv2,hs2⟩:=h.den (by omega);rw [hv1] at hv2;injection hv2 with e1 e2 e3
 subst e1 e3;exact ⟨a1,c1,hv1,hs2.mono fun b o v h=>⟨h.2.cl,by simp⟩,hcap⟩
theorem dA' {b T:Nat} {vs:List Value} {ls:List (List Nd)} (hb:Bk w.heap b vs T) (h:All2 (fun v l=>RV w l v) vs ls) (hl:ls.length <= 1000):SV (rSk rNd) (Im [] w) ls (.slice (some ⟨b,0,none⟩) ls.length ls.length):=by
 refine ⟨_,_,rfl,⟨by omega,.inr ⟨b,0,rfl,fun i l hi=>?_⟩⟩,Nat.le_refl _⟩;obtain ⟨v,hv,a,c,rfl,h1,h2⟩:=h.get hi;refine ⟨[.slice a l.length c],⟨a,c,rfl,h2,h1⟩,fun j u hj=>⟨?_,by simp⟩⟩
 match j,hj with
 | 0,hj =>
  obtain rfl:=Option.some.inj hj;show Cl w.heap b (0 + i * 1 + 0) _;rw [show 0 + i * 1 + 0 = i by omega];exact hb.cl hv
 | j + 1,hj=>simp at hj
theorem gU' {b T:Nat} {n:Nd} (hb:Bk w.heap b [iV n.op,iV n.a,iV n.b] T) (hi:I64 n.op /\ I64 n.a /\ I64 n.b):RV w [n] (.slice (some ⟨b,0,none⟩) 1 1) :=
 TmV.sv.1 (tm1 (n:=n) (D:=Im [] w) hb hi fun o t ht=>⟨ht.cl,by simp⟩)
theorem we' {C:Mem} {a:Option Addr} {ls:List (List Nd)} (h:Sl (rSk rNd) C a ls):Sl (rSl rNd) C a ls:=by
 refine ⟨h.1,h.2.imp_right fun ⟨b,o,ha,hc⟩=>⟨b,o,ha,fun i l hi=>?_⟩⟩;obtain ⟨cs,⟨a',c',rfl,_,h2⟩,h3⟩:=hc i l hi;exact ⟨_,⟨a',c',rfl,h2⟩,h3⟩
theorem rW' (ls:List (List Nd)):ls.flatten.length = (ls.map List.length).sum:=by simp [List.length_flatten]
theorem kU' (nat:Int) (hn:I64 nat) (w:World) :
  CC 83 #[.agg #[iV nat]] w (RwP w (nL nat)):=by
 refine oF Tryz.func83 ?_;refine cO (args:=[_]) 7 [.tmp 2] τok Tryz.func83 ?_;refine new fun b1 w1 hb1 h1 hs1 hk1=>?_;have h1:Bk w1.heap b1 [iV nat] 97:=h1;refine lb h1 ?_;refine fill [iV 9,iV nat,iV 0] rfl ?_;refine new fun b2 w2 hb2 h2 hs2 hk2=>?_;exact ⟨⟨_,rfl,gU' (n:=⟨9,nat,0⟩) h2 ⟨⟨by simp,by simp⟩,hn,⟨by simp,by simp⟩⟩⟩,hk1.tr hk2⟩
theorem bZ' (nat i:Int) (hi:I64 i) (w:World) :
  CC 51 #[.agg #[iV nat],iV i] w (RwP w (vL i)):=by
 refine oF Tryz.func51 ?_;refine cO (args:=[_,_]) 8 [.tmp 4] τok Tryz.func51 ?_;refine new fun b1 w1 hb1 h1 hs1 hk1=>?_;refine fill [iV 1,iV i,iV 0] rfl ?_;refine new fun b2 w2 hb2 h2 hs2 hk2=>?_;exact ⟨⟨_,rfl,gU' (n:=⟨1,i,0⟩) h2 ⟨⟨by simp,by simp⟩,hi,⟨by simp,by simp⟩⟩⟩,hk1.tr hk2⟩
theorem sF' (nat k:Int) (hn:I64 nat) (hk:I64 k) (w:World) :
  CC 54 #[.agg #[iV nat],iV k] w (RwP w (cL nat k)):=by
 refine oF Tryz.func54 ?_;refine cO (args:=[_,_]) 10 [.tmp 4] τok Tryz.func54 ?_;refine new fun b1 w1 hb1 h1 hs1 hk1=>?_;have h1:Bk w1.heap b1 [iV nat] 97:=h1;refine lb h1 ?_;refine fill [iV 10,iV nat,iV k] rfl ?_;refine new fun b2 w2 hb2 h2 hs2 hk2=>?_;exact ⟨⟨_,rfl,gU' (n:=⟨10,nat,k⟩) h2 ⟨⟨by simp,by simp⟩,hn,hk⟩⟩,hk1.tr hk2⟩
theorem qk' {op a b:Int} (hi:I64 op /\ I64 a /\ I64 b) {ls:List (List Nd)} {vk:Value} (hk:SV (rSk rNd) (Im [] w) ls vk) (hl:ls.length <= 100) (hs:ls.flatten.length <= 100000) (hp:0 < ls.flatten.length) :
  CC 55 #[iV op,iV a,iV b,vk] w (RwN w (ay' op a b ls)):=by
 refine oF Tryz.func55 ?_;obtain ⟨ak,ck,rfl,hk1,hk2⟩:=hk;have hfs:=rW' ls;refine cO (args:=[_,_,_,_]) 17 [.tmp 8] τok Tryz.func55 ?_;refine fill [iV op,iV a,iV b] rfl ?_;refine new fun b1 w1 hb1 h1 hs1 hkk1=>?_;have hr1:RV w1 [⟨op,a,b⟩] (.slice (some ⟨b1,0,none⟩) 1 1):=gU' (n:=⟨op,a,b⟩) h1 hi;refine ab' (dQ' (D:=Im [] w1) (Im.sub [] w1) ls ak ck (we' (hk1.mono fun _ _ _ h=>h.tr hkk1)) (by omega) (by omega) (by omega)) ?_;rintro e w2 ⟨v2,rfl,hO,hkk2⟩;have hr2:RV w2 ls.flatten v2:=Own.rv hO (by omega);obtain ⟨a2,c2,rfl,hf1,hf2⟩:=hr2;obtain ⟨a1,c1,e1,hr1a,hr1b⟩:=hr1.tr hkk2;injection e1 with e1 _ e2
 subst e1;refine py' (D:=fun _ _ _=>False) (fun _ _ h=>h) τok rfl rfl (by decide) (R:=rNd) (C:=Im [] w2) (l:=[⟨op,a,b⟩]) (m:=ls.flatten) (Im.sub [] w2) hr1a hf1 hp (by simp; omega) (by simp only [maxLen,List.length_cons,List.length_nil]; omega) (by simp only [List.length_cons,List.length_nil]; omega) fun v3 w3 hv3 hk3=>?_;have o3:=hv3.one;exact ⟨⟨v3,rfl,hv3.mono fun _ _ _ h=>h.elim (fun h=>h.elim) fun h=>⟨Nat.le_trans (hkk1.tr hkk2).size h.1,h.2⟩⟩,(hkk1.tr hkk2).tr hk3⟩
theorem RwN.p {e:Ending} (h:RwN w l e w'):RwP w l e w':=by
 obtain ⟨⟨v,rfl,hv⟩,hk⟩:=h;exact ⟨⟨v,rfl,hv.mono fun _ _ _ h=>⟨h.2.cl,by simp⟩⟩,hk⟩
theorem kV' {op a b:Int} (hi:I64 op /\ I64 a /\ I64 b) {ls:List (List Nd)} {vk:Value} (hk:SV (rSk rNd) (Im [] w) ls vk) (hl:ls.length <= 100) (hs:ls.flatten.length <= 100000) (hp:0 < ls.flatten.length) :
  CC 55 #[iV op,iV a,iV b,vk] w (RwP w (ay' op a b ls)):=by
 obtain ⟨h1,h2⟩:=qk' hi hk hl hs hp;exact ⟨h1,h2.mono fun _ _ h=>h.p⟩
theorem ql' {f:List Nd} {ls:List (List Nd)} {vf vk:Value} (hf:RV w f vf) (hk:SV (rSk rNd) (Im [] w) ls vk) (hl:ls.length <= 10) (hs:f.length + ls.flatten.length <= 1000) (hp:0 < f.length) :
  CC 53 #[vf,vk] w (RwP w (bQ' f ls)):=by
 refine oF Tryz.func53 ?_;obtain ⟨RES,hRES⟩:∃ r,bQ' f ls = r:=⟨_,rfl⟩
 rw [hRES];have hkk:=hk;obtain ⟨ak,ck,rfl,hk1,hk2⟩:=hk;obtain ⟨af,cf,rfl,_,_⟩:=id hf;refine cO (args:=[_,_]) 19 [.tmp 4] τok Tryz.func53 ?_;refine loop τok (σ:=Nat × List Nd × Value) (fun q=>[(0,q.2.2),(7,.slice ak ls.length ck),(8,iV (ls.length:Int)),(9,iV (q.1:Int))])
  (fun q w'=>q.1 <= ls.length /\ RES = bQ' q.2.1 (ls.drop q.1) /\ RV w' q.2.1 q.2.2 /\ 0 < q.2.1.length /\ q.2.1.length + (ls.drop q.1).flatten.length + (ls.length - q.1) <= 1010 /\ Kp [] w w') (fun q=>ls.length - q.1) (0,f,.slice af f.length cf) ⟨rfl,rfl,rfl,rfl,trivial⟩
  ⟨Nat.zero_le _,hRES.symm,hf,hp,by simp only [List.drop_zero]; omega,Kp.refl _ _⟩ ?_
 rintro ⟨i,g,vg⟩ w1 ⟨hi,hr,hg,hgp,hgs,k1⟩;simp only at hi hr hg hgp hgs;obtain ⟨ag,cg,rfl,_,_⟩:=id hg;refine ac' (fun c=>?_) (fun c=>?_)
 ·have hlt:i < ls.length:=by
   have:(i:Int) < ls.length:=c;omega
  obtain ⟨a,ha,hd⟩:=af' hlt;rw [hd] at hr hgs;simp only [bQ'] at hr;simp only [List.flatten_cons,List.length_append] at hgs;obtain ⟨b,o,rfl,hc⟩:=hk1.at hlt;obtain ⟨va,hva,hsa⟩:=vX' (hc i a ha);have hva:=hva.tr k1;have hra:RV w1 a va:=SV.mono hsa fun _ _ _ h=>h.tr k1;obtain ⟨aa,ca,rfl,_,_⟩:=id hra;refine ix i rfl hlt ?_;refine ld (Cl.cell hva.1) ?_;refine fill [.slice ag g.length cg,.slice aa a.length ca] rfl ?_;refine new fun b2 w2 hb2 h2 hs2 hk2=>?_;have hks:SV (rSk rNd) (Im [] w2) [g,a] (.slice (some ⟨b2,0,none⟩) 2 2):=dA' (ls:=[g,a]) h2 ⟨hg.tr hk2,hra.tr hk2,trivial⟩ (by simp);refine ab' (kV' (op:=6) (a:=0) (b:=0) ⟨⟨by simp,by simp⟩,⟨by simp,by simp⟩,⟨by simp,by simp⟩⟩ hks (by simp) (by simp; omega) (by simp; omega)) ?_;rintro e w3 ⟨⟨v3,rfl,hv3⟩,hk3⟩;obtain ⟨a3,c3,rfl,_,_⟩:=id hv3;refine i6 ?_;exact ⟨(i + 1,ay' 6 0 0 [g,a],_),by simp only; omega,rfl,⟨rfl,rfl,rfl,rfl,trivial⟩,hlt,hr,hv3,by simp [ay'],by simp [ay',List.length_flatten] at hgs ⊢; omega,(k1.tr hk2).tr hk3⟩
 ·have c:¬ (i:Int) < ls.length:=c
  rw [List.drop_eq_nil_of_le (by omega)] at hr;simp only [bQ'] at hr;subst hr;exact ⟨⟨_,rfl,hg⟩,k1⟩
theorem lX' {nat:Int} (hn:I64 nat) (hv:RV w l v) (hl:l.length <= 10000) :
  CC 52 #[.agg #[iV nat],v] w (RwP w (bB' nat l)):=by
 refine oF Tryz.func52 ?_;obtain ⟨av,cv,rfl,_,_⟩:=id hv;refine cO (args:=[_,_]) 10 [.tmp 4] τok Tryz.func52 ?_;refine new fun b1 w1 hb1 h1 hs1 hk1=>?_;have h1:Bk w1.heap b1 [iV nat] 97:=h1;refine ldN [iV nat] rfl (bZ h1) ?_;refine ab' (kU' nat hn w1) ?_;rintro e w2 ⟨⟨v2,rfl,hv2⟩,hk2⟩;obtain ⟨a2,c2,rfl,_,_⟩:=id hv2;refine fill [.slice a2 (nL nat).length c2,.slice av l.length cv] rfl ?_;refine new fun b3 w3 hb3 h3 hs3 hk3=>?_;have k03:=(hk1.tr hk2).tr hk3;refine ab' (kV' (op:=5) (a:=0) (b:=0) (ls:=[nL nat,l]) ⟨⟨by simp,by simp⟩,⟨by simp,by simp⟩,⟨by simp,by simp⟩⟩ (dA' (ls:=[nL nat,l]) h3 ⟨hv2.tr hk3,hv.tr k03,trivial⟩ (by simp)) (by simp) (by simp [nL]; omega) (by simp [nL])) ?_;rintro e w4 ⟨⟨v4,rfl,hv4⟩,hk4⟩;have o4:=SV.one hv4;exact ⟨⟨v4,rfl,hv4⟩,k03.tr hk4⟩
end
def Rs (w:World) (xs:List (List Nd × Value)):Prop:=∀ p ∈ xs,RV w p.1 p.2
theorem Rs.nil (w:World):Rs w []:=fun p hp=>by simp at hp
theorem Rs.tr {w w':World} {xs:List (List Nd × Value)} (h:Rs w xs) (k:Kp [] w w'):Rs w' xs:=fun p hp=>(h p hp).tr k
theorem Rs.cons {w w':World} {xs:List (List Nd × Value)} (h:Rs w xs) (k:Kp [] w w') {l:List Nd} {v:Value} (hv:RV w' l v):Rs w' ((l,v) :: xs):=fun p hp=>by
 rcases List.mem_cons.1 hp with rfl | hp
 ·exact hv
 ·exact (h p hp).tr k
theorem Rs.at {w:World} {xs:List (List Nd × Value)} (h:Rs w xs) {l:List Nd} {v:Value} (hp:(l,v) ∈ xs):RV w l v:=h _ hp
theorem Rs.hd {w:World} {xs:List (List Nd × Value)} {l:List Nd} {v:Value} (h:Rs w ((l,v) :: xs)):RV w l v:=h.at (by simp)
theorem cRw {P:Program} {f:FuncId} {args:Array Value} {w w1:World} {l:List Nd} {xs:List (List Nd × Value)} {k:Value -> World -> Prop} {kp:List PanicEntry -> World -> Prop} (h:bK' P f /\ Calls P f args w (RwP w l)) (K:Kp [] w1 w) (R:Rs w xs)
  (hk:∀ a c w',Kp [] w1 w' -> Rs w' ((l,.slice a l.length c) :: xs) -> k (.slice a l.length c) w'):EvCall P f args w k kp:=ab' h fun e w' he=>by
 obtain ⟨⟨v,rfl,hv⟩,q⟩:=he;obtain ⟨a,c,rfl,_,_⟩:=id hv;exact hk a c w' (K.tr q) (R.cons q hv)
theorem wf' {P:Program} {f:FuncId} {args:Array Value} {w w1:World} {l:List Nd} {xs:List (List Nd × Value)} {k:Value -> World -> Prop} {kp:List PanicEntry -> World -> Prop} (h:bK' P f /\ Calls P f args w (RwN w l)) (K:Kp [] w1 w) (R:Rs w xs)
  (hk:∀ a c w',Kp [] w1 w' -> Rs w' ((l,.slice a l.length c) :: xs) -> SV rNd (New w1.heap.size w') l (.slice a l.length c) -> k (.slice a l.length c) w'):EvCall P f args w k kp:=ab' h fun e w' he=>by
 have hp:=he.p;obtain ⟨⟨v,rfl,hv⟩,q⟩:=he;obtain ⟨a,c,rfl,h1,h2⟩:=hv;obtain ⟨⟨_,e1,hv'⟩,_⟩:=hp;injection e1 with e1
 subst e1;exact hk a c w' (K.tr q) (R.cons q hv') ⟨a,c,rfl,h1.mono fun _ _ _ h=>⟨Nat.le_trans K.size h.1,h.2⟩,h2⟩
theorem nwR {w w1:World} {T:TypeId} {cs:List Value} {xs:List (List Nd × Value)} {k:Nat -> World -> Prop} (K:Kp [] w1 w) (R:Rs w xs) (hk:∀ b w',Bk w'.heap b cs T -> Kp [] w1 w' -> Rs w' xs -> k b w'):EvNew w T cs k :=
 new fun b w' _ hB _ q=>hk b w' hB (K.tr q) (R.tr q)
section
variable {w:World}
theorem jA' {nat:Int} (hn:I64 nat) {t z x:List Nd} {vt vz vx:Value} (ht:RV w t vt) (hz:RV w z vz) (hx:RV w x vx) (hl:t.length + z.length + x.length <= 10000) :
  CC 50 #[.agg #[iV nat],vt,vz,vx] w (RwP w (ef' nat t z x)):=by
 refine oF Tryz.func50 ?_;obtain ⟨at_,ct_,rfl,_,_⟩:=id ht;obtain ⟨az,cz,rfl,_,_⟩:=id hz;obtain ⟨ax,cx,rfl,_,_⟩:=id hx;refine cO (args:=[_,_,_,_]) 20 [.tmp 8] τok Tryz.func50 ?_;refine new fun b1 w1 hb1 h1 hs1 hk1=>?_;have h1:Bk w1.heap b1 [iV nat] 97:=h1;have R:Rs w1 [(t,.slice at_ t.length ct_),(z,.slice az z.length cz),(x,.slice ax x.length cx)]:=(((Rs.nil w).cons (Kp.refl _ _) hx).cons (Kp.refl _ _) hz).cons (Kp.refl _ _) ht |>.tr hk1;refine am' τok (fun z=>Kp [] w1 z) ?_;have K:Kp [] w1 (dr w1):=(Kp.refl [] w1).dr _;refine rV τok [0,1,2,3,6,7,8] 5 (mB 12 [4,5,9,10,11]) (kQd w1) ?_;refine lk h1 ?_;refine aO' [iV nat] rfl (bZ h1) ?_;refine aO' [iV nat] rfl (bZ h1) ?_;refine nV τok 4 4 (mB 12 [5,9,10,11]) ?_;refine cRw (kU' nat hn _) K R fun aw2 cw2 w2 K R=>⟨.inl K,?_⟩
 refine nV τok 5 3 (mR 12 9) ?_;refine cRw (lX' hn (R.at (l:=nL nat) (by simp)) (by simp [nL])) K R fun aw3 cw3 w3 K R=>⟨.inl K,?_⟩
 refine nV τok 9 2 (mR 12 10) ?_;refine fill [.slice aw3 (bB' nat (nL nat)).length cw3,.slice at_ t.length ct_,.slice az z.length cz,.slice ax x.length cx] rfl ?_;refine nwR K R fun bw4 w4 hw4 K R=>⟨.inl K,?_⟩
 refine nV τok 10 1 (mR 12 11) ?_;refine cRw (kV' (op:=11) (a:=nat) (b:=2) (ls:=[bB' nat (nL nat),t,z,x]) ⟨⟨by simp,by simp⟩,hn,⟨by simp,by simp⟩⟩ (dA' (ls:=[bB' nat (nL nat),t,z,x]) hw4 ⟨R.at (by simp),R.at (by simp),R.at (by simp),R.at (by simp),trivial⟩ (by simp)) (by simp) (by simp [bB',nL,ay'] <;> omega) (by simp [bB',nL,ay'] <;> omega)) K R fun aw5 cw5 w5 K R=>⟨.inl K,?_⟩
 refine rV τok [11] 0 (mR 12 12) K ?_;refine dV ?_;exact ⟨⟨_,rfl,R.hd⟩,hk1.tr K⟩
theorem jB' {nat:Int} (hn:I64 nat) (w:World) :
  CC 56 #[.agg #[iV nat]] w (RwN w (kT' nat)):=by
 refine oF Tryz.func56 ?_;refine cO (args:=[_]) 13 [.tmp 2] τok Tryz.func56 ?_;refine new fun b1 w1 hb1 h1 hs1 hk1=>?_;have h1:Bk w1.heap b1 [iV nat] 97:=h1;have R:Rs w1 []:=Rs.nil w1;refine am' τok (fun z=>Kp [] w1 z) ?_;have K:Kp [] w1 (dr w1):=(Kp.refl [] w1).dr _;refine rV τok [0,2,4] 8 (mB 11 [1,3,5,6,7,8,9,10]) (kQd w1) ?_;refine aO' [iV nat] rfl (bZ h1) ?_;refine aO' [iV nat] rfl (bZ h1) ?_;refine aO' [iV nat] rfl (bZ h1) ?_;refine nV τok 1 7 (mB 11 [3,5,6,7,8,9,10]) ?_;refine cRw (kU' nat hn _) K R fun aw2 cw2 w2 K R=>⟨.inl K,?_⟩
 refine nV τok 3 6 (mR 11 5) ?_;refine cRw (kU' nat hn _) K R fun aw3 cw3 w3 K R=>⟨.inl K,?_⟩
 refine nV τok 5 5 (mR 11 6) ?_;refine cRw (kU' nat hn _) K R fun aw4 cw4 w4 K R=>⟨.inl K,?_⟩
 refine nV τok 6 4 (mR 11 7) ?_;refine fill [.slice aw3 (nL nat).length cw3,.slice aw4 (nL nat).length cw4] rfl ?_;refine nwR K R fun bw5 w5 hw5 K R=>⟨.inl K,?_⟩
 refine nV τok 7 3 (mR 11 8) ?_;refine cRw (kV' (op:=4) (a:=0) (b:=0) (ls:=[nL nat,nL nat]) ⟨⟨by simp,by simp⟩,⟨by simp,by simp⟩,⟨by simp,by simp⟩⟩ (dA' (ls:=[nL nat,nL nat]) hw5 ⟨R.at (by simp),R.at (by simp),trivial⟩ (by simp)) (by simp) (by simp [nL]) (by simp [nL])) K R fun aw6 cw6 w6 K R=>⟨.inl K,?_⟩
 refine nV τok 8 2 (mR 11 9) ?_;refine fill [.slice aw2 (nL nat).length cw2,.slice aw6 (ay' 4 0 0 [nL nat,nL nat]).length cw6] rfl ?_;refine nwR K R fun bw7 w7 hw7 K R=>⟨.inl K,?_⟩
 refine nV τok 9 1 (mR 11 10) ?_;refine wf' (qk' (op:=4) (a:=0) (b:=0) (ls:=[nL nat,ay' 4 0 0 [nL nat,nL nat]]) ⟨⟨by simp,by simp⟩,⟨by simp,by simp⟩,⟨by simp,by simp⟩⟩ (dA' (ls:=[nL nat,ay' 4 0 0 [nL nat,nL nat]]) hw7 ⟨R.at (by simp),R.at (by simp),trivial⟩ (by simp)) (by simp) (by simp [nL,ay']) (by simp [nL])) K R fun aw8 cw8 w8 K R N=>⟨.inl K,?_⟩
 refine rV τok [10] 0 (mR 11 11) K ?_;refine dV ?_;exact ⟨⟨_,rfl,N.mono fun _ _ _ h=>⟨Nat.le_trans hk1.size h.1,h.2⟩⟩,hk1.tr K⟩
theorem tW' {nat:Int} (hn:I64 nat) {l:List Nd} {v:Value} (hv:RV w l v) (hl:l.length <= 1000) :
  CC 57 #[.agg #[iV nat],v] w (RwN w (tV' nat l)):=by
 refine oF Tryz.func57 ?_;obtain ⟨av,cv,rfl,_,_⟩:=id hv;refine cO (args:=[_,_]) 16 [.tmp 4] τok Tryz.func57 ?_;refine new fun b1 w1 hb1 h1 hs1 hk1=>?_;have h1:Bk w1.heap b1 [iV nat] 97:=h1;have R:Rs w1 [(l,.slice av l.length cv)]:=((Rs.nil w).cons (Kp.refl _ _) hv).tr hk1;refine am' τok (fun z=>Kp [] w1 z) ?_;have K:Kp [] w1 (dr w1):=(Kp.refl [] w1).dr _;refine rV τok [0,2,3,4] 8 (mB 12 [1,5,6,7,8,9,10,11]) (kQd w1) ?_;refine aO' [iV nat] rfl (bZ h1) ?_;refine aO' [iV nat] rfl (bZ h1) ?_;refine aO' [iV nat] rfl (bZ h1) ?_;refine nV τok 1 7 (mR 12 5) ?_;refine wf' (jB' hn _) K R fun aw2 cw2 w2 K R N=>⟨.inl K,?_⟩
 refine nV τok 5 6 (mR 12 6) ?_;refine cRw (lX' hn (R.at (l:=l) (by simp)) (by omega)) K R fun aw3 cw3 w3 K R=>⟨.inl K,?_⟩
 refine nV τok 6 5 (mR 12 7) ?_;refine cRw (lX' hn (R.at (l:=bB' nat l) (by simp)) (by simp [bB',ay',nL] <;> omega)) K R fun aw4 cw4 w4 K R=>⟨.inl K,?_⟩
 refine nV τok 7 4 (mR 12 8) ?_;refine fill [.slice aw2 (kT' nat).length cw2,.slice aw4 (bB' nat (bB' nat l)).length cw4] rfl ?_;refine nwR K R fun bw5 w5 hw5 K R=>⟨.inl K,?_⟩
 refine nV τok 8 3 (mR 12 9) ?_;refine cRw (kV' (op:=13) (a:=0) (b:=0) (ls:=[kT' nat,bB' nat (bB' nat l)]) ⟨⟨by simp,by simp⟩,⟨by simp,by simp⟩,⟨by simp,by simp⟩⟩ (dA' (ls:=[kT' nat,bB' nat (bB' nat l)]) hw5 ⟨R.at (by simp),R.at (by simp),trivial⟩ (by simp)) (by simp) (by simp [kT',bB',nL,ay'] <;> omega) (by simp [kT',bB',nL,ay'] <;> omega)) K R fun aw6 cw6 w6 K R=>⟨.inl K,?_⟩
 refine nV τok 9 2 (mR 12 10) ?_;refine fill [.slice aw6 (ay' 13 0 0 [kT' nat,bB' nat (bB' nat l)]).length cw6] rfl ?_;refine nwR K R fun bw7 w7 hw7 K R=>⟨.inl K,?_⟩
 refine nV τok 10 1 (mR 12 11) ?_;refine wf' (qk' (op:=12) (a:=0) (b:=1) (ls:=[ay' 13 0 0 [kT' nat,bB' nat (bB' nat l)]]) ⟨⟨by simp,by simp⟩,⟨by simp,by simp⟩,⟨by simp,by simp⟩⟩ (dA' (ls:=[ay' 13 0 0 [kT' nat,bB' nat (bB' nat l)]]) hw7 ⟨R.at (by simp),trivial⟩ (by simp)) (by simp) (by simp [kT',bB',nL,ay'] <;> omega) (by simp [ay'])) K R fun aw8 cw8 w8 K R N=>⟨.inl K,?_⟩
 refine rV τok [11] 0 (mR 12 12) K ?_;refine dV ?_;exact ⟨⟨_,rfl,N.mono fun _ _ _ h=>⟨Nat.le_trans hk1.size h.1,h.2⟩⟩,hk1.tr K⟩
end
def nR' (B:BoT):Int:=iv' (fun p=>decide (p.2 = 1)) B.prims 0
def rX' (B:BoT):Int:=(B.prims.getD (nR' B).toNat (0,0)).1
def fb' (B:BoT) (id:Int):List Nd :=
 let m:=B.nat
 if id = 1 then ef' m (vL 1) (vL 0) (bB' m (bQ' (cL m 1) [bQ' (vL 3) [vL 0,vL 1]]))
 else if id = 2 then ef' m (vL 1) (cL m 0) (bB' m (bQ' (ay' 8 (rX' B) 0 []) [vL 1,bQ' (vL 3) [vL 0,vL 1]]))
 else ef' m (vL 1) (vL 1) (bB' m (ef' m (vL 1) (vL 2) (bB' m (bQ' (vL 4) [vL 1,vL 0]))))
def gV' (B:BoT) (id:Int):Except Int (List Nd × List Nd) :=
 if as' B ≠ 0 then .error (as' B) else if id < 1 \/ 3 < id then .error 1 else if B.nat = -1 \/ (id = 2 /\ nR' B < 0) then .error 22 else .ok (kT' B.nat,tV' B.nat (fb' B id))
section
variable {w:World}
theorem vj' (w:World) :
  CC 84 #[.slice none 0 0,iV 0] w (fun e w'=>e = .returned (.slice none 0 0) /\ Kp [] w w'):=by
 refine oF Tryz.func84 ?_;refine cO (args:=[_,_]) 27 [.tmp 4] τok Tryz.func84 ?_;refine qW' rfl ?_;refine i6 ?_;refine i6 ?_;exact ⟨rfl,Kp.refl _ _⟩
theorem rY' (w:World) :
  CC 59 #[.slice none 0 0] w (fun e w'=>e = .returned (.slice none 0 0) /\ Kp [] w w'):=by
 refine oF Tryz.func59 ?_;refine cO (args:=[_]) 36 [.tmp 2] τok Tryz.func59 ?_;refine lp τok (σ:=Nat) (fun k=>[(0,.slice none 0 0),(3,iV 0),(9,.slice none 0 0),(10,iV ((0:Nat):Int)),(11,iV k)]) (fun k w'=>k = 0 /\ w' = w) (fun k=>0) 0 rfl
  ⟨rfl,rfl,rfl,rfl,rfl,trivial⟩ ⟨rfl,rfl⟩ ?_
 rintro k w1 ⟨rfl,rfl⟩;refine ab' (vj' w1) ?_;rintro e w2 ⟨rfl,hk2⟩;refine lp τok (σ:=Nat) (fun k=>[(6,.slice none 0 0),(25,.slice none 0 0),(26,iV ((0:Nat):Int)),(27,iV k)]) (fun k w'=>k = 0 /\ Kp [] w1 w') (fun k=>0) 0 rfl
  ⟨rfl,rfl,rfl,rfl,trivial⟩ ⟨rfl,hk2⟩ ?_
 rintro k w3 ⟨rfl,hk3⟩;exact ⟨rfl,hk3⟩
theorem tX' {op a b:Int} (hi:I64 op /\ I64 a /\ I64 b) (w:World) :
  CC 55 #[iV op,iV a,iV b,.slice none 0 0] w (RwP w (ay' op a b [])):=by
 refine oF Tryz.func55 ?_;refine cO (args:=[_,_,_,_]) 17 [.tmp 8] τok Tryz.func55 ?_;refine fill [iV op,iV a,iV b] rfl ?_;refine new fun b1 w1 hb1 h1 hs1 hkk1=>?_;refine ab' (rY' w1) ?_;rintro e w2 ⟨rfl,hkk2⟩;have h1:=h1.kp hkk2 (by simp);have hb1:b1 = w.heap.size:=hb1;refine ap τok rfl rfl (by decide) w.heap.size (v:=.slice (some ⟨b1,0,none⟩) 1 1) (n:=1) (xs:=[iV op,iV a,iV b]) (fw' (n:=1) h1 (by omega) (by simp) (by simp [maxLen])) (m:=0) [] rfl (.inl rfl) (fun u hu=>by simp at hu) (by decide) (by simp [maxLen]) (by have:=hkk1.size; have:=hkk2.size; omega) fun v3 w3 hr3 hk3=>?_;have k02:=hkk1.tr hkk2;have k03:Kp [] w w3:=k02.trans hk3 fun y hy hl=>by
  simp [Value.ownBlock] at hy;omega
 have hv3:RV w3 (ay' op a b []) v3:=by
  have:=px' (w:=w) (C:=Im [] w) (R:=rNd) (l:=[⟨op,a,b⟩]) (css:=[[iV op,iV a,iV b]]) (by simpa [show rNd.sz = 3 from rfl] using hr3) ⟨⟨rfl,hi⟩,trivial⟩ (by simp);exact this.mono fun _ _ _ h=>Cn.im (X:=[]) (by simp) k03 h
 have o3:=SV.one hv3;exact ⟨⟨v3,rfl,hv3⟩,k03⟩
theorem rZ' (p:Int × Int) (w:World) :
  CC 49 #[.agg #[iV p.1,iV p.2]] w (fun r w'=>r = .returned (.bool (decide (p.2 = 1))) /\ Kp [] w w'):=by
 refine oF Tryz.func49 ?_;refine cO (args:=[_]) 6 [.tmp 2] τok Tryz.func49 ?_;refine new fun b2 w1 hb2 h2 hs2 hk1=>?_;have h2:Bk w1.heap b2 [iV p.1,iV p.2] 63:=h2;refine lb h2 ?_;exact ⟨rfl,hk1⟩
def PmP (w:World) (r:Except Int (List Nd × List Nd)) (e:Ending) (w':World):Prop :=
 jI' r (fun q=>∃ v u,e = .returned (.tuple #[v,u,iV 0]) /\ SV rNd (New w.heap.size w') q.1 v /\ SV rNd (New w.heap.size w') q.2 u) (fun er=>e = .returned (.tuple #[.slice none 0 0,.slice none 0 0,iV er]) /\ er ≠ 0) /\ Kp [] w w'
end
theorem jC' (B:BoT) (id:Int):(fb' B id).length <= 1000:=by
 unfold fb';simp only;split
 ·simp [ef',bB',bQ',ay',vL,cL,nL]
 ·split
  ·simp [ef',bB',bQ',ay',vL,cL,nL]
  ·simp [ef',bB',bQ',ay',vL,cL,nL]
theorem nm' {B:BoT}:∀ (l:List (Int × Int)) (g:G),kK' B l g = true -> ∀ p ∈ l,0 <= p.1 /\ p.1 < B.ents.length /\ (entD B p.1).kind = 2
 | [],g,h,p,hp=>by simp at hp
 | x :: r,g,h,p,hp=>by
  simp only [kK'] at h;split at h
  ·cases h
  rename_i q;rcases List.mem_cons.1 hp with rfl | hp
  ·refine ⟨by omega,by omega,by omega⟩
  ·exact nm' r _ h p hp
theorem kW' {B:BoT} (h:as' B = 0):I64 B.nat /\ ∀ p ∈ B.prims,0 <= p.1 /\ p.1 < B.ents.length /\ (entD B p.1).kind = 2:=by
 unfold as' at h;split at h
 ·rename_i g; exact absurd h g
 split at h
 ·cases h
 rename_i g1;obtain ⟨_,h2⟩:=bw'.1 h;have h3:nQ' B = true:=by
  cases hq:nQ' B with
  | true=>rfl
  | false=>rw [hq] at h2; cases h2
 unfold nQ' at h3;split at h3
 ·cases h3
 rename_i g2;refine ⟨?_,nm' _ _ h3⟩
 by_cases hn:B.nat = -1
 ·rw [hn]; exact ⟨by simp,by simp⟩
 ·have h4:sB' B B.nat = true:=by
   cases hq:sB' B B.nat with
   | true=>rfl
   | false=>exact absurd (.inl ⟨hn,hq⟩) g2
  unfold sB' at h4;split at h4
  ·cases h4
  ·rename_i g3
   exact ⟨by omega,by omega⟩
section
variable {C:Mem} {w:World} {B:BoT}
theorem qm' (hS:Sub C w) (l:List (Int × Int)) (a:Option Addr) (cap:Nat) (f:FuncId) (captured:Array Value) (p:(Int × Int) -> Bool) (hl:Sl rPr C a l)
  (hf:∀ x ∈ l,∀ w',Kp [] w w' -> ∀ v:Value,v = .agg #[iV x.1,iV x.2] -> bK' Tryz.prog f /\ Calls Tryz.prog f (#[] ++ [v].toArray ++ captured) w' (fun e w2=>e = .returned (.bool (p x)) /\ Kp [] w' w2)) :
  CC 48 #[.slice a l.length cap,.func (.func f) #[] captured] w (fun e w'=>e = .returned (iV (iv' p l 0)) /\ Kp [] w w'):=by
 refine oF Tryz.func48 ?_;have hlen:=hl.1;refine cO (args:=[_,_]) 19 [.tmp 4] τok Tryz.func48 ?_;refine loop τok (σ:=Nat) (fun k=>[(0,.slice a l.length cap),(1,.func (.func f) #[] captured),(7,iV l.length),(8,iV k)])
  (fun k w'=>k <= l.length /\ iv' p l 0 = iv' p (l.drop k) k /\ Kp [] w w') (fun k=>l.length - k) 0 ⟨rfl,rfl,rfl,rfl,trivial⟩ ⟨Nat.zero_le _,rfl,Kp.refl _ _⟩ ?_
 rintro k w1 ⟨hk,hr,hkp⟩;refine ac' (fun h5=>?_) (fun h5=>?_)
 ·have hlt:k < l.length:=by omega
  obtain ⟨x,hx,hd⟩:=af' hlt;rw [hd] at hr;obtain ⟨b,o,rfl,hc⟩:=hl.at (ai' hx)
  obtain ⟨cs,⟨rfl,i1,i2⟩,hcc⟩:=hc k x hx;refine ix k rfl hlt ?_;refine ldN [iV x.1,iV x.2] rfl (fun j v hj=>hS.tr hkp _ _ _ (hcc j v hj)) ?_;refine ab' (hf x (List.mem_of_getElem? hx) w1 hkp _ rfl) ?_;rintro e w2 ⟨rfl,hk2⟩;refine br (fun c=>?_) (fun c=>?_)
  ·exact ⟨by rw [hr]; simp only [iv']; rw [if_pos c]; rfl,hkp.tr hk2⟩
  ·refine i6 ?_
   refine ⟨k + 1,by omega,rfl,⟨rfl,rfl,rfl,rfl,trivial⟩,hlt,?_,hkp.tr hk2⟩;rw [hr]; simp only [iv']; rw [if_neg (by simp [c])]; rfl
 ·refine ⟨?_,hkp⟩
  rw [hr,List.drop_eq_nil_of_le (by omega)]
  rfl
theorem gW' (hS:Sub C w) (hold:∀ b o v,C b o v -> b < w.heap.size) {vb:Value} (hvb:BoV C B vb) (id:Int) :
  CC 23 #[vb,iV id] w (PmP w (gV' B id)):=by
 refine oF Tryz.func23 ?_;obtain ⟨RES,hRES⟩:∃ r,gV' B id = r:=⟨_,rfl⟩
 rw [hRES];unfold gV' at hRES;have hvv:=hvb;obtain ⟨v1,v2,v3,rfl,hO,hE,hP⟩:=hvb;obtain ⟨ap,cp,rfl,hP1,hP2⟩:=hP;refine cO (args:=[_,_]) 124 [.tmp 4,.tmp 5,.tmp 6] τok Tryz.func23 ?_;refine new fun b2 wa hb2 h2 hs1 hk1=>?_;have h2:Bk wa.heap b2 [iV B.vars,v1,v2,iV B.nat,.slice ap B.prims.length cp] 26:=h2;refine ldN [iV B.vars,v1,v2,iV B.nat,.slice ap B.prims.length cp] rfl (bZ h2) ?_;refine ab' (dL' (hS.tr hk1) (Kp.hold hk1 hold) hvv) ?_;rintro r wb ⟨rfl,hk2⟩;have k0b:=hk1.tr hk2;have h2:=h2.kp hk2 (by simp)
 by_cases g0:as' B ≠ 0
 ·rw [if_pos g0] at hRES
  subst hRES;refine ar' g0 ?_;exact ⟨⟨rfl,g0⟩,k0b⟩
 rw [if_neg g0] at hRES;refine bf' g0 ?_;refine ac' (fun g1=>?_) (fun g1=>?_)
 ·rw [if_pos (.inl g1)] at hRES
  subst hRES;exact ⟨⟨rfl,by decide⟩,k0b⟩
 have g1:¬ id < 1:=g1;refine ac' (fun g2=>?_) (fun g2=>?_)
 ·rw [if_pos (.inr g2)] at hRES
  subst hRES;exact ⟨⟨rfl,by decide⟩,k0b⟩
 have g2:¬ 3 < id:=g2;rw [if_neg (by omega)] at hRES;refine lb h2 ?_;refine ab' (qm' (hS.tr k0b) B.prims ap cp 49 #[] (fun p=>decide (p.2 = 1)) hP1 fun x _ w' k v hv=>by subst hv; exact rZ' x w') ?_;rintro r wc ⟨rfl,hk3⟩;have k0c:=k0b.tr hk3;have h2:=h2.kp hk3 (by simp);have hsum:iv' (fun p:Int × Int=>decide (p.2 = 1)) B.prims 0 = nR' B:=rfl;rw [hsum];have hsp:nR' B < 0 \/ ∃ p,B.prims[(nR' B).toNat]? = some p /\ rX' B = p.1 /\ (nR' B).toNat < B.prims.length:=by
  have key:∀ (l:List (Int × Int)) (i:Int),iv' (fun p=>decide (p.2 = 1)) l i = -1 \/ (i <= iv' (fun p=>decide (p.2 = 1)) l i /\ iv' (fun p=>decide (p.2 = 1)) l i < i + l.length):=by
   intro l
   induction l with
   | nil=>intro i; exact .inl rfl
   | cons x r ih =>
    intro i;simp only [iv'];split
    ·exact .inr ⟨by omega,by simp; omega⟩
    ·rcases ih (i + 1) with h | h
     ·exact .inl h
     ·exact .inr ⟨by omega,by simp; omega⟩
  rcases key B.prims 0 with h | ⟨h,h'⟩
  ·exact .inl (by unfold nR'; omega)
  ·refine .inr ?_
   have h1:0 <= nR' B:=h;have h2:nR' B < B.prims.length:=by unfold nR'; omega
   obtain ⟨p,hp,_⟩:=af' (l:=B.prims) (k:=(nR' B).toNat) (by omega);exact ⟨p,hp,by unfold rX'; simp [hp],by omega⟩
 obtain ⟨nat,hnat⟩:∃ n,B.nat = n:=⟨_,rfl⟩
 obtain ⟨sI,hsI⟩:∃ n,nR' B = n:=⟨_,rfl⟩
 rw [hsI,hnat] at hRES;rw [hsI] at hsp ⊢;rw [hnat] at h2;obtain ⟨hn,hpi⟩:=kW' (Decidable.not_not.1 g0);rw [hnat] at hn;refine lb h2 ?_;refine ac' (fun g3=>?_) (fun g3=>?_)
 ·rw [if_pos (.inl g3)] at hRES
  subst hRES;exact ⟨⟨rfl,by decide⟩,k0c⟩
 have g3:¬ nat = -1:=g3;refine ac' (fun g4=>?_) (fun g4=>?_)
 ·obtain rfl:id = 2:=g4
  refine ac' (fun g5=>?_) (fun g5=>?_)
  ·have g5:sI < 0:=g5
   rw [if_pos (.inr ⟨rfl,g5⟩)] at hRES;subst hRES;exact ⟨⟨rfl,by decide⟩,k0c⟩
  have g5:¬ sI < 0:=g5;rw [if_neg (by omega)] at hRES;subst hRES;obtain ⟨p,hp,hpe,hpl⟩:=hsp.resolve_left g5;obtain ⟨bp,op,rfl,hcp⟩:=hP1.at hpl;obtain ⟨cs,⟨rfl,i1,i2⟩,hcc⟩:=hcp _ p hp;refine lb h2 ?_;refine new fun b9 wd hb9 h9 hs9 hk9=>?_;refine stN (vs:=[iV nat]) h9 rfl (by simp [Value.oneCell']) fun wm h9 hs1' hk1'=>?_;have hc1:Kp [] wc wm:=hk9.newSt hb9 hk1';have h9:Bk (wm).heap b9 [iV nat] 97:=h9;have h2:=h2.kp hc1 (by simp);have k0m:=k0c.tr hc1;refine lb h2 ?_;refine ix sI.toNat (by omega) (by omega) ?_;refine ld (Cl.cell (hS.tr k0m _ _ _ (hcc 0 _ rfl))) ?_;refine ab' (tX' (op:=8) (a:=p.1) (b:=0) ⟨⟨by simp,by simp⟩,i1,⟨by simp,by simp⟩⟩ wm) ?_;rintro e w1 ⟨⟨vn0,rfl,hn0⟩,qn0⟩;rw [<- hpe] at hn0;obtain ⟨an0,cn0,rfl,_,_⟩:=id hn0;have k01:Kp [] w w1:=k0m.tr qn0;have h9:=h9.kp qn0 (by simp);have R:Rs w1 [(ay' 8 (rX' B) 0 [],.slice an0 (ay' 8 (rX' B) 0 []).length cn0)]:=(Rs.nil w1).cons (Kp.refl _ _) hn0;refine am' τok (fun z=>Kp [] w1 z) ?_;have K:Kp [] w1 (dr w1):=(Kp.refl [] w1).dr _;refine rV τok [0,1,3,5,6,7,9,11,13] 13 (mB 22 [2,4,8,10,12,14,15,16,17,18,19,20,21]) (kQd w1) ?_;refine aO' [iV nat] rfl (bZ h9) ?_;refine aO' [iV nat] rfl (bZ h9) ?_;refine aO' [iV nat] rfl (bZ h9) ?_;refine aO' [iV nat] rfl (bZ h9) ?_;refine aO' [iV nat] rfl (bZ h9) ?_;refine aO' [iV nat] rfl (bZ h9) ?_;refine aO' [iV nat] rfl (bZ h9) ?_;refine aO' [iV nat] rfl (bZ h9) ?_;refine nV τok 2 12 (mB 22 [4,8,10,12,14,15,16,17,18,19,20,21]) ?_;refine cRw (bZ' nat 1 ⟨by simp,by simp⟩ _) K R fun aw2 cw2 w2 K R=>⟨.inl K,?_⟩
  refine nV τok 4 11 (mB 22 [8,10,12,14,15,16,17,18,19,20,21]) ?_;refine cRw (sF' nat 0 hn ⟨by simp,by simp⟩ _) K R fun aw3 cw3 w3 K R=>⟨.inl K,?_⟩
  refine nV τok 8 10 (mB 22 [10,12,14,15,16,17,18,19,20,21]) ?_;refine cRw (bZ' nat 1 ⟨by simp,by simp⟩ _) K R fun aw4 cw4 w4 K R=>⟨.inl K,?_⟩
  refine nV τok 10 9 (mB 22 [12,14,15,16,17,18,19,20,21]) ?_;refine cRw (bZ' nat 3 ⟨by simp,by simp⟩ _) K R fun aw5 cw5 w5 K R=>⟨.inl K,?_⟩
  refine nV τok 12 8 (mR 22 14) ?_;refine cRw (bZ' nat 0 ⟨by simp,by simp⟩ _) K R fun aw6 cw6 w6 K R=>⟨.inl K,?_⟩
  refine nV τok 14 7 (mR 22 15) ?_;refine cRw (bZ' nat 1 ⟨by simp,by simp⟩ _) K R fun aw7 cw7 w7 K R=>⟨.inl K,?_⟩
  refine nV τok 15 6 (mR 22 16) ?_;refine fill [.slice aw6 (vL 0).length cw6,.slice aw7 (vL 1).length cw7] rfl ?_;refine nwR K R fun bw8 w8 hw8 K R=>⟨.inl K,?_⟩
  refine nV τok 16 5 (mR 22 17) ?_;refine cRw (ql' (f:=vL 3) (ls:=[vL 0,vL 1]) (R.at (by simp)) (dA' (ls:=[vL 0,vL 1]) hw8 ⟨R.at (by simp),R.at (by simp),trivial⟩ (by simp)) (by simp) (by simp [vL,cL,nL,ay',bQ',bB',ef']) (by simp [vL,cL,nL,ay',bQ',bB',ef'])) K R fun aw9 cw9 w9 K R=>⟨.inl K,?_⟩
  refine nV τok 17 4 (mR 22 18) ?_;refine fill [.slice aw4 (vL 1).length cw4,.slice aw9 (bQ' (vL 3) [vL 0,vL 1]).length cw9] rfl ?_;refine nwR K R fun bw10 w10 hw10 K R=>⟨.inl K,?_⟩
  refine nV τok 18 3 (mR 22 19) ?_;refine cRw (ql' (f:=ay' 8 (rX' B) 0 []) (ls:=[vL 1,bQ' (vL 3) [vL 0,vL 1]]) (R.at (by simp)) (dA' (ls:=[vL 1,bQ' (vL 3) [vL 0,vL 1]]) hw10 ⟨R.at (by simp),R.at (by simp),trivial⟩ (by simp)) (by simp) (by simp [vL,cL,nL,ay',bQ',bB',ef']) (by simp [vL,cL,nL,ay',bQ',bB',ef'])) K R fun aw11 cw11 w11 K R=>⟨.inl K,?_⟩
  refine nV τok 19 2 (mR 22 20) ?_;refine cRw (lX' hn (R.at (l:=bQ' (ay' 8 (rX' B) 0 []) [vL 1,bQ' (vL 3) [vL 0,vL 1]]) (by simp)) (by simp [vL,cL,nL,ay',bQ',bB',ef'])) K R fun aw12 cw12 w12 K R=>⟨.inl K,?_⟩
  refine nV τok 20 1 (mR 22 21) ?_;refine cRw (jA' hn (R.at (l:=vL 1) (by simp)) (R.at (l:=cL nat 0) (by simp)) (R.at (l:=bB' nat (bQ' (ay' 8 (rX' B) 0 []) [vL 1,bQ' (vL 3) [vL 0,vL 1]])) (by simp)) (by simp [vL,cL,nL,ay',bQ',bB',ef'])) K R fun aw13 cw13 w13 K R=>⟨.inl K,?_⟩
  refine rV τok [21] 0 (mR 22 22) K ?_;refine dV ?_;have hbd:RV w13 (fb' B 2) (.slice aw13 (ef' nat (vL 1) (cL nat 0) (bB' nat (bQ' (ay' 8 (rX' B) 0 []) [vL 1,bQ' (vL 3) [vL 0,vL 1]]))).length cw13):=by
   unfold fb';rw [hnat];exact R.hd
  have k0z:Kp [] w w13:=k01.tr K;have h9z:Bk (w13).heap b9 [iV nat] 97:=h9.kp K (by simp);refine am' τok (fun z=>Kp [] w13 z) ?_;refine rV τok [0,2,3] 5 (mB 8 [1,4,5,6,7]) (kQd w13) ?_;refine aO' [iV nat] rfl (bZ h9z) ?_;refine aO' [iV nat] rfl (bZ h9z) ?_;refine nV τok 1 4 (mR 8 4) ?_;refine ab' (jB' hn { w13 with drawn:=(w13).drawn + 1 }) ?_;rintro e wy ⟨⟨vy,rfl,hy⟩,qy⟩;have qy:Kp [] w13 wy:=qy.rd;obtain ⟨ay,cy,rfl,_,_⟩:=id hy;refine ⟨.inl qy,?_⟩;refine nV τok 4 3 (mR 8 5) ?_;refine ab' (tW' hn (hbd.tr qy) (jC' B 2)) ?_;rintro e wz ⟨⟨vz,rfl,hz⟩,qz⟩;obtain ⟨az,cz,rfl,_,_⟩:=id hz;refine ⟨.inl (qy.tr qz),?_⟩;refine rV τok [5,6,7] 0 (mR 8 8) (qy.tr qz) ?_;refine dV ?_;exact ⟨⟨_,_,rfl,hy.mono fun _ _ _ h=>⟨Nat.le_trans k0z.size h.1,h.2.kp qz (by simp)⟩,hz.mono fun _ _ _ h=>⟨Nat.le_trans (k0z.tr qy).size h.1,h.2⟩⟩,(k0z.tr qy).tr qz⟩
 have g4:¬ id = 2:=g4;rw [if_neg (by omega)] at hRES;subst hRES;refine lb h2 ?_;refine new fun b9 wd hb9 h9 hs9 hk9=>?_;refine stN (vs:=[iV nat]) h9 rfl (by simp [Value.oneCell']) fun w1 h9 hs1' hk1'=>?_;have hc1:Kp [] wc w1:=hk9.newSt hb9 hk1';have h9:Bk (w1).heap b9 [iV nat] 97:=h9;have k01:=k0c.tr hc1;have R:Rs w1 []:=Rs.nil w1;refine ac' (fun g5=>?_) (fun g5=>?_)
 ·obtain rfl:id = 1:=g5
  refine am' τok (fun z=>Kp [] w1 z) ?_;have K:Kp [] w1 (dr w1):=(Kp.refl [] w1).dr _;refine rV τok [0,1,3,5,6,8,10,12] 13 (mB 21 [2,4,7,9,11,13,14,15,16,17,18,19,20]) (kQd w1) ?_;refine aO' [iV nat] rfl (bZ h9) ?_;refine aO' [iV nat] rfl (bZ h9) ?_;refine aO' [iV nat] rfl (bZ h9) ?_;refine aO' [iV nat] rfl (bZ h9) ?_;refine aO' [iV nat] rfl (bZ h9) ?_;refine aO' [iV nat] rfl (bZ h9) ?_;refine aO' [iV nat] rfl (bZ h9) ?_;refine aO' [iV nat] rfl (bZ h9) ?_;refine nV τok 2 12 (mB 21 [4,7,9,11,13,14,15,16,17,18,19,20]) ?_;refine cRw (bZ' nat 1 ⟨by simp,by simp⟩ _) K R fun aw2 cw2 w2 K R=>⟨.inl K,?_⟩
  refine nV τok 4 11 (mB 21 [7,9,11,13,14,15,16,17,18,19,20]) ?_;refine cRw (bZ' nat 0 ⟨by simp,by simp⟩ _) K R fun aw3 cw3 w3 K R=>⟨.inl K,?_⟩
  refine nV τok 7 10 (mB 21 [9,11,13,14,15,16,17,18,19,20]) ?_;refine cRw (sF' nat 1 hn ⟨by simp,by simp⟩ _) K R fun aw4 cw4 w4 K R=>⟨.inl K,?_⟩
  refine nV τok 9 9 (mB 21 [11,13,14,15,16,17,18,19,20]) ?_;refine cRw (bZ' nat 3 ⟨by simp,by simp⟩ _) K R fun aw5 cw5 w5 K R=>⟨.inl K,?_⟩
  refine nV τok 11 8 (mR 21 13) ?_;refine cRw (bZ' nat 0 ⟨by simp,by simp⟩ _) K R fun aw6 cw6 w6 K R=>⟨.inl K,?_⟩
  refine nV τok 13 7 (mR 21 14) ?_;refine cRw (bZ' nat 1 ⟨by simp,by simp⟩ _) K R fun aw7 cw7 w7 K R=>⟨.inl K,?_⟩
  refine nV τok 14 6 (mR 21 15) ?_;refine fill [.slice aw6 (vL 0).length cw6,.slice aw7 (vL 1).length cw7] rfl ?_;refine nwR K R fun bw8 w8 hw8 K R=>⟨.inl K,?_⟩
  refine nV τok 15 5 (mR 21 16) ?_;refine cRw (ql' (f:=vL 3) (ls:=[vL 0,vL 1]) (R.at (by simp)) (dA' (ls:=[vL 0,vL 1]) hw8 ⟨R.at (by simp),R.at (by simp),trivial⟩ (by simp)) (by simp) (by simp [vL,cL,nL,ay',bQ',bB',ef']) (by simp [vL,cL,nL,ay',bQ',bB',ef'])) K R fun aw9 cw9 w9 K R=>⟨.inl K,?_⟩
  refine nV τok 16 4 (mR 21 17) ?_;refine fill [.slice aw9 (bQ' (vL 3) [vL 0,vL 1]).length cw9] rfl ?_;refine nwR K R fun bw10 w10 hw10 K R=>⟨.inl K,?_⟩
  refine nV τok 17 3 (mR 21 18) ?_;refine cRw (ql' (f:=cL nat 1) (ls:=[bQ' (vL 3) [vL 0,vL 1]]) (R.at (by simp)) (dA' (ls:=[bQ' (vL 3) [vL 0,vL 1]]) hw10 ⟨R.at (by simp),trivial⟩ (by simp)) (by simp) (by simp [vL,cL,nL,ay',bQ',bB',ef']) (by simp [vL,cL,nL,ay',bQ',bB',ef'])) K R fun aw11 cw11 w11 K R=>⟨.inl K,?_⟩
  refine nV τok 18 2 (mR 21 19) ?_;refine cRw (lX' hn (R.at (l:=bQ' (cL nat 1) [bQ' (vL 3) [vL 0,vL 1]]) (by simp)) (by simp [vL,cL,nL,ay',bQ',bB',ef'])) K R fun aw12 cw12 w12 K R=>⟨.inl K,?_⟩
  refine nV τok 19 1 (mR 21 20) ?_;refine cRw (jA' hn (R.at (l:=vL 1) (by simp)) (R.at (l:=vL 0) (by simp)) (R.at (l:=bB' nat (bQ' (cL nat 1) [bQ' (vL 3) [vL 0,vL 1]])) (by simp)) (by simp [vL,cL,nL,ay',bQ',bB',ef'])) K R fun aw13 cw13 w13 K R=>⟨.inl K,?_⟩
  refine rV τok [20] 0 (mR 21 21) K ?_;refine dV ?_;have hbd:RV w13 (fb' B 1) (.slice aw13 (ef' nat (vL 1) (vL 0) (bB' nat (bQ' (cL nat 1) [bQ' (vL 3) [vL 0,vL 1]]))).length cw13):=by
   unfold fb';rw [hnat];exact R.hd
  have k0z:Kp [] w w13:=k01.tr K;have h9z:Bk (w13).heap b9 [iV nat] 97:=h9.kp K (by simp);refine am' τok (fun z=>Kp [] w13 z) ?_;refine rV τok [0,2,3] 5 (mB 8 [1,4,5,6,7]) (kQd w13) ?_;refine aO' [iV nat] rfl (bZ h9z) ?_;refine aO' [iV nat] rfl (bZ h9z) ?_;refine nV τok 1 4 (mR 8 4) ?_;refine ab' (jB' hn { w13 with drawn:=(w13).drawn + 1 }) ?_;rintro e wy ⟨⟨vy,rfl,hy⟩,qy⟩;have qy:Kp [] w13 wy:=qy.rd;obtain ⟨ay,cy,rfl,_,_⟩:=id hy;refine ⟨.inl qy,?_⟩;refine nV τok 4 3 (mR 8 5) ?_;refine ab' (tW' hn (hbd.tr qy) (jC' B 1)) ?_;rintro e wz ⟨⟨vz,rfl,hz⟩,qz⟩;obtain ⟨az,cz,rfl,_,_⟩:=id hz;refine ⟨.inl (qy.tr qz),?_⟩;refine rV τok [5,6,7] 0 (mR 8 8) (qy.tr qz) ?_;refine dV ?_;exact ⟨⟨_,_,rfl,hy.mono fun _ _ _ h=>⟨Nat.le_trans k0z.size h.1,h.2.kp qz (by simp)⟩,hz.mono fun _ _ _ h=>⟨Nat.le_trans (k0z.tr qy).size h.1,h.2⟩⟩,(k0z.tr qy).tr qz⟩
 ·have g5:¬ id = 1:=g5
  refine bf' (p:=id = 2) g4 ?_;obtain rfl:id = 3:=by omega
  refine am' τok (fun z=>Kp [] w1 z) ?_;have K:Kp [] w1 (dr w1):=(Kp.refl [] w1).dr _;refine rV τok [0,1,3,5,6,7,9,11,12,14,16] 14 (mB 25 [2,4,8,10,13,15,17,18,19,20,21,22,23,24]) (kQd w1) ?_;refine aO' [iV nat] rfl (bZ h9) ?_;refine aO' [iV nat] rfl (bZ h9) ?_;refine aO' [iV nat] rfl (bZ h9) ?_;refine aO' [iV nat] rfl (bZ h9) ?_;refine aO' [iV nat] rfl (bZ h9) ?_;refine aO' [iV nat] rfl (bZ h9) ?_;refine aO' [iV nat] rfl (bZ h9) ?_;refine aO' [iV nat] rfl (bZ h9) ?_;refine aO' [iV nat] rfl (bZ h9) ?_;refine aO' [iV nat] rfl (bZ h9) ?_;refine aO' [iV nat] rfl (bZ h9) ?_;refine nV τok 2 13 (mB 25 [4,8,10,13,15,17,18,19,20,21,22,23,24]) ?_;refine cRw (bZ' nat 1 ⟨by simp,by simp⟩ _) K R fun aw2 cw2 w2 K R=>⟨.inl K,?_⟩
  refine nV τok 4 12 (mB 25 [8,10,13,15,17,18,19,20,21,22,23,24]) ?_;refine cRw (bZ' nat 1 ⟨by simp,by simp⟩ _) K R fun aw3 cw3 w3 K R=>⟨.inl K,?_⟩
  refine nV τok 8 11 (mB 25 [10,13,15,17,18,19,20,21,22,23,24]) ?_;refine cRw (bZ' nat 1 ⟨by simp,by simp⟩ _) K R fun aw4 cw4 w4 K R=>⟨.inl K,?_⟩
  refine nV τok 10 10 (mB 25 [13,15,17,18,19,20,21,22,23,24]) ?_;refine cRw (bZ' nat 2 ⟨by simp,by simp⟩ _) K R fun aw5 cw5 w5 K R=>⟨.inl K,?_⟩
  refine nV τok 13 9 (mB 25 [15,17,18,19,20,21,22,23,24]) ?_;refine cRw (bZ' nat 4 ⟨by simp,by simp⟩ _) K R fun aw6 cw6 w6 K R=>⟨.inl K,?_⟩
  refine nV τok 15 8 (mR 25 17) ?_;refine cRw (bZ' nat 1 ⟨by simp,by simp⟩ _) K R fun aw7 cw7 w7 K R=>⟨.inl K,?_⟩
  refine nV τok 17 7 (mR 25 18) ?_;refine cRw (bZ' nat 0 ⟨by simp,by simp⟩ _) K R fun aw8 cw8 w8 K R=>⟨.inl K,?_⟩
  refine nV τok 18 6 (mR 25 19) ?_;refine fill [.slice aw7 (vL 1).length cw7,.slice aw8 (vL 0).length cw8] rfl ?_;refine nwR K R fun bw9 w9 hw9 K R=>⟨.inl K,?_⟩
  refine nV τok 19 5 (mR 25 20) ?_;refine cRw (ql' (f:=vL 4) (ls:=[vL 1,vL 0]) (R.at (by simp)) (dA' (ls:=[vL 1,vL 0]) hw9 ⟨R.at (by simp),R.at (by simp),trivial⟩ (by simp)) (by simp) (by simp [vL,cL,nL,ay',bQ',bB',ef']) (by simp [vL,cL,nL,ay',bQ',bB',ef'])) K R fun aw10 cw10 w10 K R=>⟨.inl K,?_⟩
  refine nV τok 20 4 (mR 25 21) ?_;refine cRw (lX' hn (R.at (l:=bQ' (vL 4) [vL 1,vL 0]) (by simp)) (by simp [vL,cL,nL,ay',bQ',bB',ef'])) K R fun aw11 cw11 w11 K R=>⟨.inl K,?_⟩
  refine nV τok 21 3 (mR 25 22) ?_;refine cRw (jA' hn (R.at (l:=vL 1) (by simp)) (R.at (l:=vL 2) (by simp)) (R.at (l:=bB' nat (bQ' (vL 4) [vL 1,vL 0])) (by simp)) (by simp [vL,cL,nL,ay',bQ',bB',ef'])) K R fun aw12 cw12 w12 K R=>⟨.inl K,?_⟩
  refine nV τok 22 2 (mR 25 23) ?_;refine cRw (lX' hn (R.at (l:=ef' nat (vL 1) (vL 2) (bB' nat (bQ' (vL 4) [vL 1,vL 0]))) (by simp)) (by simp [vL,cL,nL,ay',bQ',bB',ef'])) K R fun aw13 cw13 w13 K R=>⟨.inl K,?_⟩
  refine nV τok 23 1 (mR 25 24) ?_;refine cRw (jA' hn (R.at (l:=vL 1) (by simp)) (R.at (l:=vL 1) (by simp)) (R.at (l:=bB' nat (ef' nat (vL 1) (vL 2) (bB' nat (bQ' (vL 4) [vL 1,vL 0])))) (by simp)) (by simp [vL,cL,nL,ay',bQ',bB',ef'])) K R fun aw14 cw14 w14 K R=>⟨.inl K,?_⟩
  refine rV τok [24] 0 (mR 25 25) K ?_;refine dV ?_;have hbd:RV w14 (fb' B 3) (.slice aw14 (ef' nat (vL 1) (vL 1) (bB' nat (ef' nat (vL 1) (vL 2) (bB' nat (bQ' (vL 4) [vL 1,vL 0]))))).length cw14):=by
   unfold fb';rw [hnat];exact R.hd
  have k0z:Kp [] w w14:=k01.tr K;have h9z:Bk (w14).heap b9 [iV nat] 97:=h9.kp K (by simp);refine am' τok (fun z=>Kp [] w14 z) ?_;refine rV τok [0,2,3] 5 (mB 8 [1,4,5,6,7]) (kQd w14) ?_;refine aO' [iV nat] rfl (bZ h9z) ?_;refine aO' [iV nat] rfl (bZ h9z) ?_;refine nV τok 1 4 (mR 8 4) ?_;refine ab' (jB' hn { w14 with drawn:=(w14).drawn + 1 }) ?_;rintro e wy ⟨⟨vy,rfl,hy⟩,qy⟩;have qy:Kp [] w14 wy:=qy.rd;obtain ⟨ay,cy,rfl,_,_⟩:=id hy;refine ⟨.inl qy,?_⟩;refine nV τok 4 3 (mR 8 5) ?_;refine ab' (tW' hn (hbd.tr qy) (jC' B 3)) ?_;rintro e wz ⟨⟨vz,rfl,hz⟩,qz⟩;obtain ⟨az,cz,rfl,_,_⟩:=id hz;refine ⟨.inl (qy.tr qz),?_⟩;refine rV τok [5,6,7] 0 (mR 8 8) (qy.tr qz) ?_;refine dV ?_;exact ⟨⟨_,_,rfl,hy.mono fun _ _ _ h=>⟨Nat.le_trans k0z.size h.1,h.2.kp qz (by simp)⟩,hz.mono fun _ _ _ h=>⟨Nat.le_trans (k0z.tr qy).size h.1,h.2⟩⟩,(k0z.tr qy).tr qz⟩
end
end Go.Proofs.YtmpgcpemnjbgjaaGreat
