import Derived.Test.YtbnhfnfgabkelaaGreatMd23
set_option linter.unusedVariables false
set_option linter.unusedSimpArgs false
set_option maxRecDepth 100000
set_option maxHeartbeats 4000000
namespace Go.Proofs.YtbnhfnfgabkelaaGreat
open Go.Wx Cd Tm Lv
def AlR (w':World) (bl:Nat) (B:BoT) (en:Int) (r:Except Int (Unit × Nat)):Prop:=mu' r (fun q=>LkC (Im [bl] w') w' bl B en q.2 0) (fun e'=>e' ≠ 0 /\ LkC (Im [bl] w') w' bl B en 0 e')
theorem nU' {B:BoT} {e:Int}:∀ (l:List Tr) (cx:Ctx) (n:Nat) (q:Ctx × Nat),CxOk B cx -> (∀ (i:Nat) y,l[i]? = some y -> Ft (QB B) ((cx.length + i:Nat):Int) y) -> fb' B e l cx n = .ok q -> CxOk B q.1
 | [],cx,n,q,hc,hl,h=>by cases h; exact hc
 | a :: r,cx,n,q,hc,hl,h=>by
  obtain ⟨p,_,h⟩:=an' h;split at h
  ·cases h
  split at h
  ·cases h
  refine nU' r _ _ q (hc.snoc (hl 0 a rfl) (by simp)) (fun i y hy=>?_) h;have:=hl (i + 1) y (by simpa using hy)
  rwa [show (cx ++ [(a,(none:Option Tr))]).length + i = cx.length + (i + 1) by simp; omega]
theorem rf' {B:BoT}:∀ (l:List Tr) (cx:Ctx) (n:Nat) (q:Ctx × Nat),CxOk B cx -> (∀ (i:Nat) y,l[i]? = some y -> Ft (QB B) ((cx.length + i:Nat):Int) y) -> iC' B l cx n = .ok q -> CxOk B q.1
 | [],cx,n,q,hc,hl,h=>by cases h; exact hc
 | a :: r,cx,n,q,hc,hl,h=>by
  obtain ⟨p,_,h⟩:=an' h;refine rf' r _ _ q (hc.snoc (hl 0 a rfl) (by simp)) (fun i y hy=>?_) h;have:=hl (i + 1) y (by simpa using hy)
  rwa [show (cx ++ [(a,(none:Option Tr))]).length + i = cx.length + (i + 1) by simp; omega]
section
variable {w:World} {bl:Nat} {B:BoT} {en:Int}
theorem jm' {Y:List Nat} {w wn:World} (k:Kp [bl] w wn) (hbl:bl ∈ Y) (hY:∀ y ∈ Y,y = bl \/ w.heap.size <= y) {b o:Nat} {v:Value} (h:Im [bl] w b o v):Im Y wn b o v :=
 Im.kp k (fun y hy _ => by obtain rfl : y = bl := by simpa using hy
                           exact hbl) (Im.more (fun y hy=>(hY y hy).imp (fun h=>by simp [h]) id) h)
theorem LkC.less {X Y:List Nat} {w:World} {n:Nat} {er:Int} (h:LkC (Im X w) w bl B en n er) (hY:∀ y ∈ Y,y ∈ X):LkC (Im Y w) w bl B en n er:=h.mono fun _ _ _ h=>h.less hY
theorem LkC.more {X Y:List Nat} {w w':World} {n:Nat} {er:Int} (h:LkC (Im X w) w bl B en n er) (hY:∀ y ∈ Y,y ∈ X \/ w.heap.size <= y) (k:Kp [] w w'):LkC (Im Y w') w' bl B en n er:=(h.mono fun _ _ _ h=>Im.more hY h).tr k
theorem TlC.more {X Y:List Nat} {w w':World} {bt:Nat} {cx:Ctx} (h:TlC (Im X w) w bt bl cx) (hY:∀ y ∈ Y,y ∈ X \/ w.heap.size <= y) (k:Kp [] w w'):TlC (Im Y w') w' bt bl cx:=(h.mono fun _ _ _ h=>Im.more hY h).tr k
theorem uZ' (hf:bd' B en = 0) {n0:Nat} (hL:LkC (Im [bl] w) w bl B en n0 0) :
  CC 12 #[pt bl] w (fun e w'=>(∃ v,e = .returned v) /\ AlR w' bl B en (vG' B en n0) /\ Kp [bl] w w'):=by
 refine oF Tryz.func12 ?_;obtain ⟨RES,hRES⟩:∃ r,vG' B en n0 = r:=⟨_,rfl⟩
 rw [hRES];unfold vG' at hRES;obtain ⟨hR,hB,h0,h1,hx,s,ps,qi,hF⟩:=nP' hf;have hi:((en.toNat:Nat):Int) = en:=by omega
 obtain ⟨e1,e2,e3⟩:=hF.ps_eq hx;rw [hi] at e1 e2 e3;rw [e1,e2,e3] at hRES;have hlp:=hF.lp;have hli:=hF.li;have hlc:=hF.lc;have hsF:Ft (QB B) 0 s:=hF.fs.wk fun m hm=>ec' (Nat.le_of_lt (ai' hx)) hm;have hpF:∀ (i:Nat) y,ps[i]? = some y -> Ft (QB B) (i:Int) y:=fun i y hy=>hF.up_p hB hx hy;have hqF:∀ (i:Nat) y,qi[i]? = some y -> Ft (QB B) ((ps.length + i:Nat):Int) y:=fun i y hy=>hF.up_i hB hx hy;have hnp:(entD B en).params.length <= 16 /\ (entD B en).indices.length <= 16:=by
  rw [hF.params,hF.indices];simp;omega
 have hbl:=hL;obtain ⟨v1,v2,v3,hl,hO,hE,hP⟩:=hL;obtain ⟨be,oe,ce,rfl,u1,u2,u3,u4,u5,u6,hcs,s1,s2,s3,s4,s5,s6⟩:=ki' (e:=en) hE h0 h1;have hone:=kj' s1 s2 s3 s4 s5 s6;have hEn:EnV (Im [bl] w) (entD B en) (.agg #[iV (entD B en).kind,u1,u2,u3,u4,u5,u6]):=⟨_,_,_,_,_,_,rfl,s1,s2,s3,s4,s5,s6⟩
 have s1':=s1;rw [hF.sort] at s1';have s1':TmV (Im [bl] w) s u1:=s1';obtain ⟨asr,csr,rfl,_,_⟩:=id s1';have s2':=s2;rw [hF.params] at s2';have s2':=TmsV.sv.2 s2';obtain ⟨ap,cp,rfl,_,_⟩:=id s2';have s3':=s3;rw [hF.indices] at s3';have s3':=TmsV.sv.2 s3';obtain ⟨aq,cq,rfl,_,_⟩:=id s3';obtain ⟨ac,cc,rfl⟩:=s4.len;refine cO (args:=[_]) 91 [] τok Tryz.func12 ?_;refine aq' τok (fun z=>Kp [] w z) ?_;refine rV τok (rg 0 11) 2 (mR 13 11) (kQd w) ?_;refine lk hl ?_;refine lk hl ?_;refine ix en.toNat (by omega) (by omega) ?_;refine dQ' [iV (entD B en).kind,.slice asr (row s).length csr,.slice ap ps.length cp,.slice aq qi.length cq,.slice ac (entD B en).ctors.length cc,u5,u6] rfl (fun j u hj=>(hcs j u hj).1) ?_;refine nV τok 11 1 (mR 13 12) ?_;refine new fun b2 w1 hb2 h2 hs1 hk1=>?_;have hk1:Kp [] w w1:=hk1.rd;have hb2:b2 = w.heap.size:=hb2;refine ⟨.inl hk1,?_⟩;refine nV τok 12 0 (mR 13 13) ?_;refine stN (vs:=[iV (entD B en).kind,.slice asr (row s).length csr,.slice ap ps.length cp,.slice aq qi.length cq,.slice ac (entD B en).ctors.length cc,u5,u6]) h2 rfl hone fun w2 h2 hs2 hk2=>?_;have k02:Kp [] w w2:=hk1.newSt hb2 hk2;refine ⟨.inr (by kernel_rfl),?_⟩;refine dV ?_;have hL2:=hbl.tr k02;have hbw:=hl.lt;have hX2:∀ b ∈ [bl],b < w2.heap.size:=fun b hb=>by
  obtain rfl:b = bl:=by simpa using hb
  exact KZ hbw k02.size
 obtain ⟨w1',w2',w3',hl2,hO2,hE2,hP2⟩:=id hL2;have hs2':TmV (Im [bl] w2) s (.slice asr (row s).length csr):=s1'.mono fun _ _ _ h=>h.tr k02;refine aq' τok (fun z=>Kp [] w2 z) ?_;refine rV τok (rg 0 10) 8 (mR 18 10) (kQd w2) ?_;refine dQ' [iV B.vars,w1',w2',iV B.nat,w3'] rfl (fun j u hj=>by
  refine hl2.cl ?_;rw [KW]
  match j,hj with
  | 0,hj=>exact hj
  | 1,hj=>exact hj
  | 2,hj=>exact hj
  | 3,hj=>exact hj
  | 4,hj=>exact hj
  | j + 5,hj=>cases hj) ?_
 refine lk h2 ?_;refine lk hl2 ?_;refine nV τok 10 7 (mR 18 11) ?_;refine ab' (uN' (w:=(dr w2)) (X:=[bl]) (cx:=[]) (fuel:=(n0:Int)) hB (fun i q hq=>by simp at hq) (by simp) hX2 hsF ⟨w1',w2',w3',rfl,hO2,hE2,hP2⟩ (SV.nil _ _) hs2') ?_;rintro e w3 ⟨he,hk3⟩;have hk3:Kp [] w2 w3:=hk3.rd;have k03:=k02.tr hk3;have h2:=h2.kp hk3 (by simp);have hL3:=hL2.tr hk3;have hb2n:b2 ≠ bl:=by omega
 have fin:∀ {wn:World} {X:List Nat} {n:Nat} {er:Int},bl ∈ X -> LkC (Im X wn) wn bl B en n er -> LkC (Im [bl] wn) wn bl B en n er:=fun hb h=>h.less fun y hy=>by
  obtain rfl:y = bl:=by simpa using hy
  exact hb
 cases ht:ek' B [] s (n0:Int) with
 | error er =>
  rw [ht] at he hRES;have hRES:.error er = RES:=hRES;subst hRES;obtain rfl:=he;have her:er ≠ 0:=(cy' hB GJ).er _ _ _ _ ht;refine ⟨.inl hk3,?_⟩;refine rV τok (rg 11 7) 0 (mR 18 18) hk3 ?_;refine dV ?_;refine new fun b6 w4 hb6 h6 hs4 hk4=>?_;refine ab' (is' (X:=[bl]) (hL3.tr hk4) (by simp) 0 er) ?_;rintro r w5 ⟨rfl,hL5,k45⟩;refine eS' (fun h=>absurd h her) (fun _=>?_);exact ⟨⟨_,rfl⟩,⟨her,hL5⟩,((k03.tr hk4).weak (by simp)).tq k45⟩
 | ok q =>
 rw [ht] at he hRES;have hRES:(bdJ (iC' B ps [] q.2) fun cp n=>bdJ (iC' B qi cp n) fun _ n=>bU' B en cp (entD B en).ctors n) = RES:=hRES;obtain ⟨ut,rfl,hut⟩:=he;obtain ⟨aut,cut,rfl,_,_⟩:=id hut;refine ⟨.inl hk3,?_⟩;refine rV τok (rg 11 7) 0 (mR 18 18) hk3 ?_;refine dV ?_;refine new fun b6 w4 hb6 h6 hs4 hk4=>?_;have h6:Bk w4.heap b6 [pt bl,.slice none 0 0] 64:=h6;have l3:=k03.size;have l2:=k02.size;have hs2b:w.heap.size < w2.heap.size:=by
  have:=h2.lt;have:=hk1.size;omega
 have l23:=hk3.size;have hL4:LkC (Im [b6,bl] w4) w4 bl B en n0 0:=hL3.more (fun y hy=>by simp at hy; rcases hy with rfl | rfl; exact .inr (by omega); exact .inl (by simp)) hk4;have k04:=k03.tr hk4;refine ab' (is' hL4 (by simp) q.2 0) ?_;rintro r w5 ⟨rfl,hL5,k45⟩;have k05:Kp [bl] w w5:=(k04.weak (by simp)).tq k45;have h65:=h6.kp k45 (by simp; omega);have h25:=(h2.kp hk4 (by simp)).kp k45 (by simp; omega);have hT5:TlC (Im [b6,bl] w5) w5 b6 bl []:=⟨_,h65,SV.nil _ _⟩
 have l5:=k05.size;have hb6l:=h65.lt;have hX5:∀ b ∈ [b6,bl],b < w5.heap.size:=fun b hb=>by
  simp at hb;rcases hb with rfl | rfl
  ·exact hb6l
  ·omega
 have hY6:∀ y ∈ [b6,bl],y = bl \/ w.heap.size <= y:=fun y hy=>by
  simp at hy;rcases hy with rfl | rfl
  ·exact .inr (by omega)
  ·exact .inl rfl
 have hp5:TmsV (Im [b6,bl] w5) ps (.slice ap ps.length cp):=s2'.mono fun _ _ _ h=>jm' k05 (by simp) hY6 h;refine lb h25 ?_;refine ab' (rb' hB (cx0:=[]) (n0:=q.2) (ys:=ps) (fun i q hq=>by simp at hq) (by simp; omega) hX5 (by simp) (by simp) (by omega) hL5 hT5 (fun i y hy=>by simpa using hpF i y hy) hp5) ?_;rintro e w6 ⟨he,k56⟩;have k06:Kp [bl] w w6:=k05.trans k56 fun x hx hl=>by
  simp at hx;rcases hx with rfl | rfl
  ·simp
  ·omega
 have h26:=h25.kp k56 (by simp; omega);cases hA:iC' B ps [] q.2 with
 | error er =>
  rw [hA] at he hRES;have hRES:.error er = RES:=hRES;subst hRES;obtain ⟨rfl,her,hL6⟩:=he;exact ⟨⟨_,rfl⟩,⟨her,fin (by simp) hL6⟩,k06⟩
 | ok q2 =>
 obtain ⟨cp0,n2⟩:=q2;rw [hA] at he hRES;have hRES:(bdJ (iC' B qi cp0 n2) fun _ n=>bU' B en cp0 (entD B en).ctors n) = RES:=hRES;obtain ⟨rfl,hL6,hT6⟩:=he;have hcp:CxOk B cp0:=rf' ps [] q.2 (cp0,n2) (fun i q hq=>by simp at hq) (fun i y hy=>by simpa using hpF i y hy) hA;have hcl:cp0.length = ps.length:=by
  have:=qT' _ _ _ _ hA;simp only [List.nil_append] at this;rw [this];simp
 obtain ⟨_,ht6,hc6⟩:=id hT6;obtain ⟨a6,c6,rfl,_,_⟩:=id hc6;refine lb ht6 ?_;refine new fun b7 w7 hb7 h7 hs7 hk7=>?_;have h7:Bk w7.heap b7 [pt bl,(.slice a6 (cp0.map bdR).length c6)] 64:=h7;have k07:=k06.tr hk7;have l6:=k06.size;have hb6l6:=ht6.lt;have hL7:LkC (Im [b7,b6,bl] w7) w7 bl B en n2 0:=hL6.more (fun y hy=>by simp at hy; rcases hy with rfl | rfl | rfl; exact .inr (by omega); exact .inl (by simp); exact .inl (by simp)) hk7;have hT67:TlC (Im [b7,b6,bl] w7) w7 b6 bl cp0:=hT6.more (fun y hy=>by simp at hy; rcases hy with rfl | rfl | rfl; exact .inr (by omega); exact .inl (by simp); exact .inl (by simp)) hk7;have hT7:TlC (Im [b7,b6,bl] w7) w7 b7 bl cp0:=by
  obtain ⟨vc7,ht7,hc7⟩:=hT67;have:vc7 = (.slice a6 (cp0.map bdR).length c6):=by
   have e:=(ht6.kp hk7 (by simp)).symm.trans ht7
   simpa using e.symm
  subst this;exact ⟨_,h7,hc7⟩
 have hb7l:=h7.lt;have hX7:∀ b ∈ [b7,b6,bl],b < w7.heap.size:=fun b hb=>by
  have:=hk7.size;simp at hb;rcases hb with rfl | rfl | rfl
  ·exact hb7l
  ·omega
  ·omega
 have hY7:∀ y ∈ [b7,b6,bl],y = bl \/ w.heap.size <= y:=fun y hy=>by
  simp at hy;rcases hy with rfl | rfl | rfl
  ·exact .inr (by omega)
  ·exact .inr (by omega)
  ·exact .inl rfl
 have hq7:TmsV (Im [b7,b6,bl] w7) qi (.slice aq qi.length cq):=s3'.mono fun _ _ _ h=>jm' k07 (by simp) hY7 h;have h27:=h26.kp hk7 (by simp);refine lb h27 ?_;refine ab' (rb' hB (cx0:=cp0) (n0:=n2) (ys:=qi) hcp (by omega) hX7 (by simp) (by simp) (by omega) hL7 hT7 (fun i y hy=>by rw [hcl]; exact hqF i y hy) hq7) ?_;rintro e w8 ⟨he,k78⟩;have k08:Kp [bl] w w8:=k07.trans k78 fun x hx hl=>by
  simp at hx;rcases hx with rfl | rfl
  ·simp
  ·omega
 have h28:=h27.kp k78 (by simp; omega);cases hI:iC' B qi cp0 n2 with
 | error er =>
  rw [hI] at he hRES;have hRES:.error er = RES:=hRES;subst hRES;obtain ⟨rfl,her,hL8⟩:=he;exact ⟨⟨_,rfl⟩,⟨her,fin (by simp) hL8⟩,k08⟩
 | ok q3 =>
 obtain ⟨cq0,n3⟩:=q3;rw [hI] at he hRES;have hRES:bU' B en cp0 (entD B en).ctors n3 = RES:=hRES;obtain ⟨rfl,hL8,_⟩:=he;have hT8:TlC (Im [b6,bl] w8) w8 b6 bl cp0:=((hT67.mono fun b o v h=>Im.kp k78 (fun y hy _=>by simp at hy ⊢; omega) h).kp k78 (by simp; omega)).mono fun _ _ _ h=>h.less fun y hy=>by simp at hy ⊢; omega
 have hL8':LkC (Im [b6,bl] w8) w8 bl B en n3 0:=hL8.less fun y hy=>by simp at hy ⊢; omega
 refine lb h28 ?_;refine loop τok (σ:=Nat × Nat) (fun q=>[(0,pt bl),(2,pt b2),(6,pt b6),(65,.slice ac (entD B en).ctors.length cc),(66,iV ((entD B en).ctors.length:Int)),(67,iV (q.1:Int))])
  (fun q w'=>q.1 <= (entD B en).ctors.length /\ RES = bU' B en cp0 ((entD B en).ctors.drop q.1) q.2 /\ LkC (Im [b6,bl] w') w' bl B en q.2 0 /\ TlC (Im [b6,bl] w') w' b6 bl cp0 /\ Kp [bl] w8 w') (fun q=>(entD B en).ctors.length - q.1) (0,n3) ⟨rfl,rfl,rfl,rfl,rfl,rfl,trivial⟩
  ⟨KV _,hRES.symm,hL8',hT8,Kp.refl _ _⟩ ?_
 rintro ⟨k,n⟩ w9 ⟨hk,hr,hL9,hT9,k89⟩;simp only at hk hr hL9 hT9;have k09:Kp [bl] w w9:=k08.tq k89;refine ac' (fun c=>?_) (fun c=>?_)
 ·have hlt:k < (entD B en).ctors.length:=by
   have:(k:Int) < (entD B en).ctors.length:=c;omega
  obtain ⟨ct,hct,hd⟩:=af' hlt;rw [hd] at hr;simp only [bU'] at hr;obtain ⟨ga,go,hC⟩:=hF.ct k ct hct;have hla:=hC.la;have hlo:=hC.lo;have hgaF:∀ (i:Nat) y,ga[i]? = some y -> Ft (QB B) ((ps.length + i:Nat):Int) y:=fun i y hy=>hC.up_a hx hF.kind hy;have hgoF:∀ y ∈ go,Ft (QB B) ((ps.length + ga.length:Nat):Int) y:=fun y hy=>hC.up_o hx hF.kind hy;have hga:ct.args.map tr = ga:=dy' hC.args (fun y hy=>by
   obtain ⟨j,hj⟩:=JH hy;exact (hC.fa j y hj).ok)
  have hgo:ct.out.map tr = go:=dy' hC.out (fun y hy=>(hC.fo y hy).ok);have hal:ct.args.length = ga.length:=by rw [hC.args]; simp
  rw [hga,hgo,hal] at hr;obtain ⟨bc,oc,cc',e1,hca⟩:=s4.at hct;injection e1 with e1 _ e2
  subst e1 e2;obtain ⟨va,vo,hccs,hva,hvo⟩:=ho' hca;have hone2:∀ v ∈ [va,vo],v.oneCell' = true:=fun v hv=>by
   simp at hv;rcases hv with rfl | rfl
   ·exact hva.one
   ·exact hvo.one
  have hCt:CtV (Im [bl] w) ct (.agg #[va,vo]):=⟨va,vo,rfl,hva,hvo⟩
  have im9:∀ b o v,Im [bl] w b o v -> Im [bl] w9 b o v:=fun b o v h=>Im.kb k09 (by simp) b o v h;have h29:=h28.kp k89 (by simp; omega);have l9:=k09.size;obtain ⟨_,ht9,hc9⟩:=id hT9;obtain ⟨a9,c9,rfl,_,_⟩:=id hc9;have hb6l9:=ht9.lt;refine ix k rfl hlt ?_;refine ldN [va,vo] rfl (fun j v hj=>(im9 _ _ _ (hccs j v hj)).1) ?_;refine new fun b9 wA hb9 h9 hsA hkA=>?_;refine stN (vs:=[va,vo]) h9 rfl hone2 fun wB h9 hsB hkB=>?_;have k9B:Kp [] w9 wB:=hkA.newSt hb9 hkB;have hTB:=hT9.tr k9B;have htB:=ht9.kp k9B (by simp);refine lb htB ?_;refine new fun b10 wC hb10 h10 hsC hkC=>?_;have h10:Bk wC.heap b10 [pt bl,(.slice a9 (cp0.map bdR).length c9)] 64:=h10;have k9C:=k9B.tr hkC;have k0C:Kp [bl] w wC:=k09.tr k9C;have lB:=k9B.size;have hlA:w9.heap.size <= b9 /\ b9 < b10:=by
   have hb9:b9 = w9.heap.size:=hb9;have hb10:b10 = wB.heap.size:=hb10;have:=h9.lt;omega
  have hLC:LkC (Im [b10,b6,bl] wC) wC bl B en n 0:=(hL9.tr k9B).more (fun y hy=>by simp at hy; rcases hy with rfl | rfl | rfl; exact .inr (by omega); exact .inl (by simp); exact .inl (by simp)) hkC;have hTCb:TlC (Im [b10,b6,bl] wC) wC b6 bl cp0:=hTB.more (fun y hy=>by simp at hy; rcases hy with rfl | rfl | rfl; exact .inr (by omega); exact .inl (by simp); exact .inl (by simp)) hkC;have hTC:TlC (Im [b10,b6,bl] wC) wC b10 bl cp0:=by
   obtain ⟨vc7,ht7,hc7⟩:=id hTCb;have:vc7 = (.slice a9 (cp0.map bdR).length c9):=by
    have e:=(htB.kp hkC (by simp)).symm.trans ht7
    simpa using e.symm
   subst this;exact ⟨_,h10,hc7⟩
  have hb10l:=h10.lt;have lC:=k9C.size;have hXC:∀ b ∈ [b10,b6,bl],b < wC.heap.size:=fun b hb=>by
   simp at hb;rcases hb with rfl | rfl | rfl
   ·exact hb10l
   ·omega
   ·omega
  have hYC:∀ y ∈ [b10,b6,bl],y = bl \/ w.heap.size <= y:=fun y hy=>by
   simp at hy;rcases hy with rfl | rfl | rfl
   ·exact .inr (by omega)
   ·exact .inr (by omega)
   ·exact .inl rfl
  have h2C:=h29.kp k9C (by simp);have h9C:=h9.kp hkC (by simp);have hEC:EnV (Im [b10,b6,bl] wC) (entD B en) (.agg #[iV (entD B en).kind,.slice asr (row s).length csr,.slice ap ps.length cp,.slice aq qi.length cq,.slice (some ⟨bc,oc,none⟩) (entD B en).ctors.length cc,u5,u6]):=hEn.mono fun _ _ _ h=>jm' k0C (by simp) hYC h;have hCC:CtV (Im [b10,b6,bl] wC) ct (.agg #[va,vo]):=hCt.mono fun _ _ _ h=>jm' k0C (by simp) hYC h;refine ldN [iV (entD B en).kind,.slice asr (row s).length csr,.slice ap ps.length cp,.slice aq qi.length cq,.slice (some ⟨bc,oc,none⟩) (entD B en).ctors.length cc,u5,u6] rfl (bZ h2C) ?_;refine ldN [va,vo] rfl (bZ h9C) ?_;refine ab' (sU' hB (cx0:=cp0) (n0:=n) (ys:=ga) hcp hla (by omega) hXC (by simp) (by simp) (by omega) hLC hTC (fun i y hy=>by rw [hcl]; exact hgaF i y hy) hsF hF.s2 hF.sort ⟨h0,h1⟩ hnp hC.args hEC hCC) ?_;rintro e wD ⟨he,kCD⟩;have k0D:Kp [bl] w wD:=k0C.trans kCD fun x hx hl=>by
   simp at hx;rcases hx with rfl | rfl
   ·simp
   ·omega
  have k9D:Kp [bl] w9 wD:=(k9C.weak (by simp)).trans kCD fun x hx hl=>by
   simp at hx;rcases hx with rfl | rfl
   ·simp
   ·omega
  cases hAr:fb' B en ga cp0 n with
  | error er =>
   rw [hAr] at he hr;have hr:RES = .error er:=hr;subst hr;obtain ⟨rfl,her,hLD⟩:=he;exact ⟨⟨_,rfl⟩,⟨her,fin (by simp) hLD⟩,k0D⟩
  | ok q4 =>
  obtain ⟨cx4,n4⟩:=q4;rw [hAr] at he hr;have hr:RES = bdJ (mD' B en go ga.length cx4 go 0 n4) fun _ n=>bU' B en cp0 ((entD B en).ctors.drop (k + 1)) n:=hr;obtain ⟨rfl,hLD,hTD⟩:=he;have hcx4:CxOk B cx4:=nU' ga cp0 n (cx4,n4) hcp (fun i y hy=>by rw [hcl]; exact hgaF i y hy) hAr;have hcl4:cx4.length = ps.length + ga.length:=by
   have:=nO' _ _ _ _ hAr;simp only at this;rw [this];simp [hcl]
  have hXD:∀ b ∈ [b10,b6,bl],b < wD.heap.size:=xU hXC kCD;have h2D:=h2C.kp kCD (by simp; omega);have h9D:=h9C.kp kCD (by simp; omega);have hED:EnV (Im [b10,b6,bl] wD) (entD B en) (.agg #[iV (entD B en).kind,.slice asr (row s).length csr,.slice ap ps.length cp,.slice aq qi.length cq,.slice (some ⟨bc,oc,none⟩) (entD B en).ctors.length cc,u5,u6]):=hEn.mono fun _ _ _ h=>jm' k0D (by simp) hYC h;have hCD:CtV (Im [b10,b6,bl] wD) ct (.agg #[va,vo]):=hCt.mono fun _ _ _ h=>jm' k0D (by simp) hYC h;refine ldN [iV (entD B en).kind,.slice asr (row s).length csr,.slice ap ps.length cp,.slice aq qi.length cq,.slice (some ⟨bc,oc,none⟩) (entD B en).ctors.length cc,u5,u6] rfl (bZ h2D) ?_;refine ldN [va,vo] rfl (bZ h9D) ?_;refine ab' (uY' hB (cx:=cx4) (n0:=n4) hcx4 hXD (by simp) (by simp) (by omega) hLD hTD (qi:=qi) (ga:=ga) (go:=go) (np:=ps.length) hcl4 hlp hla hqF hgoF hli hlo hF.indices e2 hC.args hC.out hED hCD) ?_;rintro e wE ⟨he,kDE⟩;have k0E:Kp [bl] w wE:=k0D.tq kDE;have k9E:Kp [bl] w9 wE:=k9D.tq kDE;cases hOu:mD' B en go ga.length cx4 go 0 n4 with
  | error er =>
   rw [hOu] at he hr;have hr:RES = .error er:=hr;subst hr;obtain ⟨rfl,her,hLE⟩:=he;exact ⟨⟨_,rfl⟩,⟨her,fin (by simp) hLE⟩,k0E⟩
  | ok q5 =>
  rw [hOu] at he hr;have hr:RES = bU' B en cp0 ((entD B en).ctors.drop (k + 1)) q5.2:=hr;obtain ⟨rfl,hLE⟩:=he;have hTE:TlC (Im [b6,bl] wE) wE b6 bl cp0:=hT9.kb k9E (by simp) (by omega);refine i6 ?_;exact ⟨(k + 1,q5.2),by simp only; omega,rfl,⟨rfl,rfl,rfl,rfl,rfl,rfl,trivial⟩,hlt,hr,hLE.less fun y hy=>by simp at hy ⊢; omega,hTE,k89.tq k9E⟩
 ·have c:¬ (k:Int) < (entD B en).ctors.length:=c
  rw [JY (by omega)] at hr;subst hr;exact ⟨⟨_,rfl⟩,fin (by simp) hL9,k09⟩
theorem dN' {C:Mem} (hS:Sub C w) (hold:∀ b o v,C b o v -> b < w.heap.size) {vb:Value} (hvb:BoV C B vb) (fuel:Int) :
  CC 6 #[vb,iV en,iV fuel] w (fun e w'=>mu' (dx' B en fuel) (fun q=>e = .returned (.tuple #[iV (q.2:Int),iV 0])) (fun er=>e = .returned (.tuple #[iV 0,iV er]) /\ er ≠ 0) /\ Kp [] w w'):=by
 refine oF Tryz.func6 ?_;obtain ⟨RES,hRES⟩:∃ r,dx' B en fuel = r:=⟨_,rfl⟩
 rw [hRES];unfold dx' at hRES;have hvv:=hvb;obtain ⟨v1,v2,v3,rfl,hO,hE,hP⟩:=hvb;refine cO (args:=[_,_,_]) 33 [.tmp 6,.tmp 7] τok Tryz.func6 ?_;refine new fun b3 w1 hb3 h3 hs1 hk1=>?_;have h3:Bk w1.heap b3 [iV B.vars,v1,v2,iV B.nat,v3] 26:=h3;refine ldN [iV B.vars,v1,v2,iV B.nat,v3] rfl (bZ h3) ?_;refine ab' (qZ' (hS.tr hk1) (Kp.hold hk1 hold) hvv en) ?_;rintro r w2 ⟨rfl,hk2⟩;have k02:=hk1.tr hk2;have h3:=h3.kp hk2 (by simp)
 by_cases g:bd' B en ≠ 0
 ·rw [if_pos g] at hRES
  subst hRES;refine au' g ?_;exact ⟨⟨rfl,g⟩,k02⟩
 rw [if_neg g] at hRES;refine cF' g ?_;refine ldN [iV B.vars,v1,v2,iV B.nat,v3] rfl (bZ h3) ?_;refine ob' ?_;refine lK' ?_;obtain ⟨n,hn,hn1⟩:∃ n:Nat,min (max fuel 0) 100000 = (n:Int) /\ aX' fuel = n:=⟨_,by unfold aX'; omega,rfl⟩
 rw [hn];rw [hn1] at hRES;refine new fun bl w3 hbl hL hs3 hk3=>?_;have hL:Bk w3.heap bl [iV B.vars,v1,v2,iV B.nat,v3,iV en,iV (n:Int),iV 0] 51:=hL;have k03:=k02.tr hk3;have hbl:bl = w2.heap.size:=hbl;have l2:=k02.size;have up:∀ b o v,C b o v -> Im [bl] w3 b o v:=fun b o v h=>⟨hS.tr k03 _ _ _ h,fun hm=>by
  have:=hold _ _ _ h;simp at hm;omega⟩
 have hLk:LkC (Im [bl] w3) w3 bl B en n 0:=⟨v1,v2,v3,hL,hO.mono up,hE.mono up,hP.mono up⟩
 refine ab' (uZ' (Decidable.not_not.1 g) hLk) ?_;rintro e w4 ⟨⟨v,rfl⟩,hA,k34⟩;have k04:Kp [] w w4:=k03.trans k34 fun x hx hl=>by
  simp at hx;omega
 cases hr:vG' B en n with
 | error er =>
  rw [hr] at hA hRES;subst hRES;obtain ⟨her,w1',w2',w3',hl4,_⟩:=hA;refine aq' τok (fun z=>Kp [] w4 z) ?_;refine rV τok (rg 0 10) 0 (mR 10 10) (kQd w4) ?_;refine lk hl4 ?_;refine lk hl4 ?_;refine dV ?_;exact ⟨⟨rfl,her⟩,k04.dr _⟩
 | ok q =>
  rw [hr] at hA hRES;subst hRES;obtain ⟨w1',w2',w3',hl4,_⟩:=hA;refine aq' τok (fun z=>Kp [] w4 z) ?_;refine rV τok (rg 0 10) 0 (mR 10 10) (kQd w4) ?_;refine lk hl4 ?_;refine lk hl4 ?_;refine dV ?_;exact ⟨rfl,k04.dr _⟩
end
def lD' (op a b:Int) (ks:List (List Nd)):List Nd:=⟨op,a,b⟩ :: ks.flatten
def vH':List Nd -> List (List Nd) -> List Nd
 | f,[]=>f
 | f,a :: r=>vH' (lD' 6 0 0 [f,a]) r
def nL (m:Int):List Nd:=[⟨9,m,0⟩]
def vL (i:Int):List Nd:=[⟨1,i,0⟩]
def cL (m k:Int):List Nd:=[⟨10,m,k⟩]
def arrL (m:Int):List Nd:=lD' 4 0 0 [nL m,lD' 4 0 0 [nL m,nL m]]
def vc' (m:Int) (b:List Nd):List Nd:=lD' 5 0 0 [nL m,b]
def wE' (m:Int) (t z x:List Nd):List Nd:=lD' 11 m 2 [vc' m (nL m),t,z,x]
def fixW (m:Int) (b:List Nd):List Nd:=lD' 12 0 1 [lD' 13 0 0 [arrL m,vc' m (vc' m b)]]
def RV (w:World) (l:List Nd) (v:Value):Prop:=SV rNd (Im [] w) l v
def RwN (w:World) (l:List Nd) (e:Ending) (w':World):Prop:=(∃ v,e = .returned v /\ SV rNd (New w.heap.size w') l v) /\ Kp [] w w'
def RwP (w:World) (l:List Nd) (e:Ending) (w':World):Prop:=(∃ v,e = .returned v /\ RV w' l v) /\ Kp [] w w'
section
variable {w w':World} {l:List Nd} {v:Value}
end
def Rs (w:World) (xs:List (List Nd × Value)):Prop:=∀ p ∈ xs,RV w p.1 p.2
section
variable {w:World}
end
def sumI (B:BoT):Int:=mE' (fun p=>decide (p.2 = 1)) B.prims 0
def sumE (B:BoT):Int:=(B.prims.getD (sumI B).toNat (0,0)).1
def xn' (B:BoT) (id:Int):List Nd :=
 let m:=B.nat
 if id = 1 then wE' m (vL 1) (vL 0) (vc' m (vH' (cL m 1) [vH' (vL 3) [vL 0,vL 1]]))
 else if id = 2 then wE' m (vL 1) (cL m 0) (vc' m (vH' (lD' 8 (sumE B) 0 []) [vL 1,vH' (vL 3) [vL 0,vL 1]]))
 else wE' m (vL 1) (vL 1) (vc' m (wE' m (vL 1) (vL 2) (vc' m (vH' (vL 4) [vL 1,vL 0]))))
def xo' (B:BoT) (id:Int):Except Int (List Nd × List Nd) :=
 if aJ' B ≠ 0 then .error (aJ' B) else if id < 1 \/ 3 < id then .error 1 else if B.nat = -1 \/ (id = 2 /\ sumI B < 0) then .error 22 else .ok (arrL B.nat,fixW B.nat (xn' B id))
section
variable {w:World}
def PmP (w:World) (r:Except Int (List Nd × List Nd)) (e:Ending) (w':World):Prop :=
 mu' r (fun q=>∃ v u,e = .returned (.tuple #[v,u,iV 0]) /\ SV rNd (New w.heap.size w') q.1 v /\ SV rNd (New w.heap.size w') q.2 u) (fun er=>e = .returned (.tuple #[.slice none 0 0,.slice none 0 0,iV er]) /\ er ≠ 0) /\ Kp [] w w'
end
section
variable {C:Mem} {w:World} {B:BoT}
end
def wv' (B:BoT) (t y:Tr) (n:Nat):Except Int (Unit × Nat):=bdJ (bZ' B [] y (n:Int)) fun _ n=>bO' B [] t y (n:Int)
def entJ (B:BoT) (x:EnT) (i n:Nat):Except Int (Unit × Nat):=if x.kind = 1 then dx' B (i:Int) (n:Int) else wv' B (tr x.body) (tr x.type) n
def vd' (B:BoT):List EnT -> Nat -> Nat -> Except Int (Unit × Nat)
 | [],_,n=>.ok ((),n)
 | x :: r,i,n=>bdJ (entJ B x i n) fun _ n=>vd' B r (i + 1) n
def ww' (B:BoT):List EnT -> Nat -> Nat -> Int
 | [],i,_=>i
 | x :: r,i,n=>match entJ B x i n with
  | .error _=>i
  | .ok q=>ww' B r (i + 1) q.2
def wx' (B:BoT) (p:Int × Int):Bool:=match xo' B p.2 with
 | .error _=>false
 | .ok q=>decide (q.1 = (entD B p.1).type) && decide (q.2 = (entD B p.1).body)
def mG' (B:BoT):List (Int × Int) -> Option Int
 | []=>none
 | p :: r=>if wx' B p = true then mG' B r else some p.1
def gateJ (B:BoT) (n:Nat):Except Int (Unit × Nat):=bdJ (vd' B B.ents 0 n) fun _ n=>if mG' B B.prims = none then .ok ((),n) else .error 22
def gateAt (B:BoT) (n:Nat):Int:=match vd' B B.ents 0 n with
 | .error _=>ww' B B.ents 0 n
 | .ok _=>(mG' B B.prims).getD B.ents.length
section
variable {w:World} {bg:Nat} {B:BoT} {n:Nat} {at_ er:Int} {X:List Nat}
end
section
variable {B B':BoT} {P:Nd -> Prop} {cx:Ctx} {x:Tr}
theorem nV' (y:Tr) (r:List Tr):cx ++ fU' (y :: r) = cx ++ [(y,none)] ++ fU' r:=by simp [fU']
theorem CxP.of (h:CxP P cx) {l:List Tr} (hl:∀ (i:Nat) y,l[i]? = some y -> Ft P ((cx.length + i:Nat):Int) y):CxP P (cx ++ fU' l):=h.app fun i q hq=>by
 unfold fU' at hq;rw [JX] at hq;cases hp:l[i]? with
 | none=>rw [hp] at hq; cases hq
 | some p =>
  rw [hp] at hq;obtain rfl:=JB hq;exact ⟨hl i p hp,fun x hx=>by cases hx⟩
theorem mH' (hB:GoodB B) (hA:Agr B B' P):∀ (l:List Tr) (cx:Ctx) (n:Nat),CxP P cx -> cx.length + l.length <= 200 -> (∀ (i:Nat) y,l[i]? = some y -> Ft P ((cx.length + i:Nat):Int) y) -> Eqv (fun c=>c = cx ++ fU' l) (iC' B l cx n) (iC' B' l cx n)
 | [],cx,n,_,_,_=>Eqv.ok (by simp [fU'])
 | a :: r,cx,n,hcx,hl,hy=>by
  simp only [JV] at hl;simp only [iC'];have ha:Ft P (cx.length:Int) a:=hy 0 a rfl;rw [nV'];exact (im' hB hA hcx (by omega) ha n).bd fun q n _ hq=>mH' hB hA r _ n (hcx.snoc ha fun x hx=>by cases hx) (by simp; omega) fun i y hi=>(hy (i + 1) y hi).mono (by simp; omega)
theorem nW' (hB:GoodB B) (hA:Agr B B' P) {e:Int} (hI:sH' B B' P e):∀ (l:List Tr) (cx:Ctx) (n:Nat),CxP P cx -> cx.length + l.length <= 200 -> (∀ (i:Nat) y,l[i]? = some y -> Ft P ((cx.length + i:Nat):Int) y) -> Eqv (fun c=>c = cx ++ fU' l) (fb' B e l cx n) (fb' B' e l cx n)
 | [],cx,n,_,_,_=>Eqv.ok (by simp [fU'])
 | a :: r,cx,n,hcx,hl,hy=>by
  simp only [JV] at hl;simp only [fb'];have ha:Ft P (cx.length:Int) a:=hy 0 a rfl;rw [nV',hA.vars,hA.ords,hI.sort,hI.params,hI.indices];exact (im' hB hA hcx (by omega) ha n).bd fun q n _ hq=>Eqv.ite (fun _=>Eqv.er 21) fun _=>Eqv.ite (fun _=>Eqv.er 20) fun _=>nW' hB hA hI r _ n (hcx.snoc ha fun x hx=>by cases hx) (by simp; omega) fun i y hi=>(hy (i + 1) y hi).mono (by simp; omega)
theorem rg' (hB:GoodB B) (hA:Agr B B' P) {e:Int} (hI:sH' B B' P e) {np:Nat} {go:List Tr} {na:Nat} (hnp:(psM B e).length <= 16) (hql:(qiM B e).length <= 16) (hna:na <= 16) (hcx:CxP P cx) (hc:cx.length = (psM B e).length + na) (hgo:∀ y ∈ go,Ft P (((psM B e).length + na:Nat):Int) y) (hlo:go.length = (qiM B e).length):∀ (l:List Tr) (j n:Nat),j + l.length <= go.length -> (∀ y ∈ l,Ft P (cx.length:Int) y) -> Eqv (fun _=>True) (mD' B e go na cx l j n) (mD' B' e go na cx l j n)
 | [],j,n,_,_=>Eqv.ok trivial
 | o :: r,j,n,hj,hy=>by
  simp only [JV] at hj;simp only [mD'];have e2:qiM B' e = qiM B e:=by unfold qiM; rw [hI.indices]
  rw [e2];refine Eqv.ite (fun _=>Eqv.er 20) fun _=>((EqE.rfl' fun z hz=>nT' hA.qk hnp hna hI.fi hgo hql hlo (by omega) hz).pu n).bd fun want n _ hw=>?_;exact (lm' hB hA hcx (by omega) (hy o (by simp)) (hw.mono (by omega)) n).bd fun _ n _ _=>rg' hB hA hI (np:=np) hnp hql hna hcx hc hgo hlo r (j + 1) n (by omega) fun y hz=>hy y (by simp [hz])
structure CtA (B:BoT) (P:Nd -> Prop) (e:Int) (c:CtT):Prop where
 la:c.args.length <= 16
 lo:c.out.length = (qiM B e).length
 fa:∀ (i:Nat) y,(c.args.map tr)[i]? = some y -> Ft P (((psM B e).length + i:Nat):Int) y
 fo:∀ y ∈ c.out.map tr,Ft P (((psM B e).length + c.args.length:Nat):Int) y
theorem lE' (hB:GoodB B) (hA:Agr B B' P) {e:Int} (hI:sH' B B' P e) (hnp:(psM B e).length <= 16) (hql:(qiM B e).length <= 16) (hcx:CxP P cx) (hc:cx.length = (psM B e).length):∀ (l:List CtT) (n:Nat),(∀ c ∈ l,CtA B P e c) -> Eqv (fun _=>True) (bU' B e cx l n) (bU' B' e cx l n)
 | [],n,_=>Eqv.ok trivial
 | c :: r,n,h=>by
  simp only [bU'];have hC:=h c (by simp);have h1:=hC.la;refine (nW' hB hA hI (c.args.map tr) cx n hcx (by simp; omega) fun i y hi=>(hC.fa i y hi).mono (by omega)).bd fun cx' n _ hcx'=>?_;subst hcx';have hl:(cx ++ fU' (c.args.map tr)).length = (psM B e).length + c.args.length:=by rw [JK,dL',List.length_map,hc]
  refine (rg' hB hA hI (np:=0) hnp hql hC.la (hcx.of fun i y hi=>(hC.fa i y hi).mono (by omega)) hl hC.fo (by rw [List.length_map]; exact hC.lo) _ 0 n (by simp) fun y hy=>(hC.fo y hy).mono (by omega)).bd fun _ n _ _=>?_;exact lE' hB hA hI hnp hql hcx hc r n fun c hc=>h c (by simp [hc])
def iD' (B:BoT) (e:Int) (l:List CtT) (n:Nat):Except Int (Unit × Nat) :=
 bdJ (ek' B [] (tr (entD B e).sort) (n:Int)) fun _ n=>bdJ (iC' B (psM B e) [] n) fun cp n=>bdJ (iC' B (qiM B e) cp n) fun _ n=>bU' B e cp l n
theorem ve' (hB:GoodB B) (hA:Agr B B' P) {e:Int} (hI:sH' B B' P e) (hnp:(psM B e).length <= 16) (hql:(qiM B e).length <= 16) (l:List CtT) (h:∀ c ∈ l,CtA B P e c) (n:Nat):iD' B' e l n = iD' B e l n:=by
 have e1:psM B' e = psM B e:=by unfold psM; rw [hI.params]
 have e2:qiM B' e = qiM B e:=by unfold qiM; rw [hI.indices]
 have hn:CxP P []:=fun i q hq=>by simp at hq
 refine (?_:Eqv (fun _=>True) (iD' B e l n) (iD' B' e l n)).1;unfold iD';rw [e1,e2,hI.sort];refine (mx' hB hA hn (by simp) hI.fs n).bd fun _ n _ _=>(mH' hB hA (psM B e) [] n hn (by simp; omega) fun i y hi=>(hI.fp i y hi).mono (by simp)).bd fun cp n _ hcp=>?_;subst hcp;simp only [List.nil_append];have hl:(fU' (psM B e)).length = (psM B e).length:=dL' _;have hcx:CxP P (fU' (psM B e)):=by
  have:=hn.of (l:=psM B e) fun i y hi=>(hI.fp i y hi).mono (by simp)
  simpa using this
 exact (mH' hB hA (qiM B e) _ n hcx (by omega) fun i y hi=>(hI.fi i y hi).mono (by omega)).bd fun _ n _ _=>lE' hB hA hI hnp hql hcx hl l n h
end
theorem Ft.wkP {Q R:Nd -> Prop} {N:Int} {x:Tr} (h:Ft Q N x) (hq:∀ m,ah' m = true -> Q m -> R m):Ft R N x:=⟨h.ok,h.len,h.bl,fun m hm=>hq m (io' x .tm h.ok.1 m hm) (h.al m hm)⟩
theorem vf' {B:BoT} {i:Nat} {x:EnT} (hi:B.ents[i]? = some x) (hk:x.kind = 1) {k:Nat} (h:i < k):cX' B k (i:Int) = true:=by
 simp [cX',bJ' hi,hk,h]
section
variable {B B':BoT} {k:Nat} {s:Int}
theorem it' {i:Nat} (hi:i <= k) {m:Nd} (hp:ah' m = true) (h:aH' B i (-1) m):aH' B k s m:=by
 have h0:=(aU' hp).2.2.1;have:=du' (s:=-1) (s':=-1) hi (.inl rfl) h
 by_cases h9:m.op = 9
 ·simp only [aH',bh',h9,Bool.or_eq_true,decide_eq_true_eq] at this ⊢
  simp at this ⊢;rcases this with h | h
  ·omega
  ·exact .inr h
 ·simpa [aH',bh',h9] using this
theorem rh' (hB:GoodB B) {i:Nat} (hik:i <= k) {x:EnT} {t:Tr} {ps qi:List Tr} (hi:B.ents[i]? = some x) (hF:GoodF B i x t ps qi) (he1:(entD B' i).sort = (entD B i).sort) (he2:(entD B' i).params = (entD B i).params) (he3:(entD B' i).indices = (entD B i).indices):sH' B B' (aH' B k s) (i:Int):=by
 obtain ⟨e1,e2,e3⟩:=hF.ps_eq hi;refine ⟨he1,he2,he3,?_,?_,?_⟩
 ·rw [e3]
  exact hF.fs.wkP fun m hp hm=>it' hik hp hm
 ·rw [e1]
  exact fun j y hy=>(hF.fp j y hy).wkP fun m hp hm=>it' hik hp hm
 ·rw [e1,e2]
  exact fun j y hy=>(hF.fi j y hy).wkP fun m hp hm=>it' hik hp hm
theorem sV' (hB:GoodB B) (hk:k <= B.ents.length) (hv:B'.vars = B.vars) (ho:B'.orders = B.orders) (he:∀ i:Nat,i < k -> entD B' i = entD B i)
  (hs:s = -1 \/ (s = (k:Int) /\ cX' B B.ents.length k = true /\ (entD B' k).sort = (entD B k).sort /\ (entD B' k).params = (entD B k).params /\ (entD B' k).indices = (entD B k).indices)):Agr B B' (aH' B k s):=by
 refine ⟨pT' B k s,hv,ho,fun m hm=>du' hk ?_ hm,fun m h8 h9 h10 h11 hm=>?_,fun m hm h8=>?_,fun m hm h9 h0=>?_,fun m hm h=>?_⟩
 ·rcases hs with h | ⟨rfl,h,_⟩
  ·exact .inl h
  ·exact .inr h
 ·simpa [QB,aH',bh',h8,h9,h10,h11] using hm
 ·simp only [aH',bh',h8,Bool.and_eq_true,decide_eq_true_eq] at hm
  simp at hm;obtain ⟨i,hi⟩:∃ i:Nat,m.a = (i:Int):=⟨m.a.toNat,by omega⟩
  rw [hi] at hm ⊢;have hik:i < k:=by omega
  obtain ⟨x,hx,_⟩:=af' (l:=B.ents) (k:=i) (by omega);refine ⟨he i hik,?_⟩;rw [bJ' hx] at hm ⊢;rcases hB.ent i x hx with ⟨t,ps,qi,hF⟩ | ⟨ty,bo,hD⟩
  ·have:=hF.kind
   omega
  ·rw [hD.type,hD.body,eb' hD.ft.ok,eb' hD.fb.ok]
   exact ⟨hD.ft.wkP fun m hp hm=>it' (by omega) hp hm,hD.fb.wkP fun m hp hm=>it' (by omega) hp hm⟩
 ·simp only [aH',bh',h9,Bool.or_eq_true,decide_eq_true_eq] at hm
  simp at hm
  by_cases hms:m.a = s
  ·rcases hs with h | ⟨rfl,hf,h1,h2,h3⟩
   ·omega
   ·rw [hms]
    obtain ⟨i,x,t,ps,qi,hi0,_,hi,hxD,hF⟩:=hB.fam hf (KJ _);obtain rfl:i = k:=by omega
    exact rh' hB (KJ _) hi hF h1 h2 h3
  ·have hf:cX' B k m.a = true:=by
    rcases hm with h | h
    ·exact absurd h hms
    ·exact h
   obtain ⟨i,x,t,ps,qi,hi0,hik,hi,hxD,hF⟩:=hB.fam hf hk;rw [hi0];have:=he i hik;exact rh' hB (by omega) hi hF (by rw [this]) (by rw [this]) (by rw [this])
 ·have hf:cX' B k m.a = true:=by
   rcases h with h | h <;> simp only [aH',bh',h,Bool.and_eq_true,decide_eq_true_eq] at hm <;> simp at hm
   ·exact hm.1
   ·exact hm
  obtain ⟨i,x,t,ps,qi,hi0,hik,hi,hxD,hF⟩:=hB.fam hf hk;rw [hi0] at hf ⊢;obtain ⟨e1,e2,e3⟩:=hF.ps_eq hi;refine ⟨he i hik,by simp [aH',bh',hf],fun j hj=>⟨?_,?_⟩⟩
  ·simp only [aH',bh']
   simp [hf];omega
  ·rw [bJ' hi] at hj
   obtain ⟨c,hc,_⟩:=af' (l:=x.ctors) (k:=j) hj;obtain ⟨ga,go,hC⟩:=hF.ct j c hc;obtain ⟨e4,e5,e6⟩:=hC.ag_eq hi hc;rw [e1,e4,e5];exact ⟨fun j y hy=>(hC.fa j y hy).wk fun m hm=>du' (by omega) (.inr hf) hm,fun y hy=>(hC.fo y hy).wk fun m hm=>du' (by omega) (.inr hf) hm⟩
end
section
variable {B B':BoT} {k n:Nat} {s:Int}
theorem sW' (he:∀ i:Nat,i < k -> entD B' i = entD B i) (a:Int):cX' B' k a = cX' B k a:=by
 unfold cX'
 by_cases h0:0 <= a
 ·by_cases h1:a < k
  ·obtain ⟨i,rfl⟩:∃ i:Nat,a = (i:Int):=⟨a.toNat,by omega⟩
   rw [he i (by omega)]
  ·rw [decide_eq_false h1]
   simp
 ·rw [decide_eq_false h0]
  simp
theorem ri' (hv:B'.vars = B.vars) (he:∀ i:Nat,i < k -> entD B' i = entD B i) (m:Nd):bh' B' k s m = bh' B k s m:=by
 have hf:=sW' he m.a;have hk:∀ {f:EnT -> Bool},(decide (0 <= m.a) && (decide (m.a < (k:Int)) && f (entD B' m.a))) = (decide (0 <= m.a) && (decide (m.a < (k:Int)) && f (entD B m.a))):=fun {f}=>by
  by_cases h0:0 <= m.a
  ·by_cases h1:m.a < k
   ·obtain ⟨i,hi⟩:∃ i:Nat,m.a = (i:Int):=⟨m.a.toNat,by omega⟩
    rw [hi,he i (by omega)]
   ·rw [decide_eq_false h1]
    simp
  ·rw [decide_eq_false h0]
   simp
 unfold bh';rw [hf,hv,hk (f:=fun x=>decide (x.kind = 2))]
 by_cases h:cX' B k m.a = true
 ·have:(entD B' m.a) = entD B m.a:=by
   simp only [cX',Bool.and_eq_true,decide_eq_true_eq] at h;obtain ⟨i,hi⟩:∃ i:Nat,m.a = (i:Int):=⟨m.a.toNat,by omega⟩
   rw [hi];exact he i (by omega)
  rw [this]
 ·have:cX' B k m.a = false:=by simpa using h
  rw [this];simp
variable (hv:B'.vars = B.vars) (he:∀ i:Nat,i < k -> entD B' i = entD B i)
include hv he
theorem kk' (l:List Nd) (b:Int):kl' B' k s l b = kl' B k s l b:=by
 unfold kl';simp only [ri' hv he]
theorem dz' {st:Int}:∀ (l:List (List Nd)) (b:Int),bS' B' k s st l b = bS' B k s st l b
 | [],_=>rfl
 | l :: r,b=>by
  simp only [bS'];rw [kk' hv he,dz' r]
theorem fY' {x y:EnT} (h1:y.indices = x.indices) (h2:y.params = x.params):∀ l:List CtT,bP' B' k y l = bP' B k x l
 | []=>rfl
 | c :: r=>by
  simp only [bP'];rw [dz' hv he,dz' hv he,fY' h1 h2 r,h1,h2]
theorem oH' (x:EnT):bF' B' k x = bF' B k x:=by
 unfold bF';simp only [kk' hv he,dz' hv he,fY' hv he rfl rfl]
end
theorem iu' {B:BoT}:∀ (l:List EnT) (i:Nat),(∀ (k:Nat) x,l[k]? = some x -> bF' B (i + k) x = 0) -> bt' B l i = 0
 | [],i,h=>rfl
 | y :: r,i,h=>by
  simp only [bt'];refine as'.2 ⟨h 0 y rfl,iu' r (i + 1) fun k x hx=>?_⟩;have:=h (k + 1) x hx
  rwa [show i + 1 + k = i + (k + 1) by omega]
def cutB (B:BoT) (n:Nat):BoT:={ vars:=B.vars,orders:=B.orders,ents:=B.ents.take n,nat:=-1,prims:=[] }
section
variable {B:BoT} {n:Nat}
theorem nX' (hR:aJ' B = 0):fw' B.vars B.orders = 0 /\ B.ents.length <= 64 /\ bt' B B.ents 0 = 0 /\ oB' B = true:=by
 unfold aJ' at hR;split at hR
 ·rename_i g; exact absurd hR g
 split at hR
 ·cases hR
 rename_i g1 g2;obtain ⟨h1,h2⟩:=as'.1 hR;refine ⟨by omega,by omega,h1,?_⟩;split at h2
 ·assumption
 ·cases h2
theorem vg' (hB:GoodB B) {P:Nd -> Prop} {i:Nat} {x:EnT} (hi:B.ents[i]? = some x) (hk:x.kind = 1) (hP:∀ m,ah' m = true -> aH' B i i m -> P m):(psM B i).length <= 16 /\ (qiM B i).length <= 16 /\ ∀ c ∈ x.ctors,CtA B P i c:=by
 rcases hB.ent i x hi with ⟨t,ps,qi,hF⟩ | ⟨ty,bo,hD⟩
 ·obtain ⟨e1,e2,e3⟩:=hF.ps_eq hi
  rw [e1,e2];refine ⟨hF.lp,hF.li,fun c hc=>?_⟩;obtain ⟨j,hj⟩:=JH hc;obtain ⟨ga,go,hC⟩:=hF.ct j c hj;have m1:c.args.map tr = ga:=dy' hC.args fun y hy=>by
   obtain ⟨j,hj⟩:=JH hy;exact (hC.fa j y hj).ok
  have m2:c.out.map tr = go:=dy' hC.out fun y hy=>(hC.fo y hy).ok;have l1:c.args.length = ga.length:=by rw [hC.args]; simp
  have l2:c.out.length = go.length:=by rw [hC.out]; simp
  refine ⟨by rw [l1]; exact hC.la,by rw [l2,e2]; exact hC.lo,?_,?_⟩
  ·rw [m1,e1]
   exact fun j y hy=>(hC.fa j y hy).wkP hP
  ·rw [m2,e1,l1]
   exact fun y hy=>(hC.fo y hy).wkP hP
 ·have:=hD.kind
  omega
theorem rj' (B:BoT) (e:Int) (n:Nat):vG' B e n = iD' B e (entD B e).ctors n:=rfl
end
def rT:List Nd:=[⟨2,1,1⟩,⟨3,0,0⟩]
def rI:List Nd:=[⟨9,0,0⟩]
def rX:List Nd:=[⟨4,0,0⟩,⟨9,0,0⟩,⟨9,0,0⟩]
def enB (r:List Nd):EnT:={ kind:=1,sort:=rT,params:=[],indices:=[],ctors:=[⟨[],[]⟩,⟨[r],[]⟩],type:=[],body:=[] }
def BN (r:List Nd) (nat:Int):BoT:=⟨0,[],[enB r],nat,[]⟩
theorem rk':dx' (BN rI 0) 0 9 = .ok ((),9):=by kernel_rfl
theorem sX':dx' (BN rX (-1)) 0 9 = .error 20:=by kernel_rfl
theorem sY':lB' (BN rX (-1)) 0 = (false,0):=by kernel_rfl
def km' (lim:Int):List (List Nd) -> Int -> Int
 | [],a=>a
 | l :: r,a=>if a < lim then km' lim r (a + 1 + (l.length:Int)) else a
def szC (lim:Int):List CtT -> Int -> Int
 | [],a=>a
 | c :: r,a=>if a < lim then szC lim r (a + 1 + km' lim c.args 0 + km' lim c.out 0) else a
def szE (lim:Int):List EnT -> Int -> Int
 | [],a=>a
 | x :: r,a=>if a < lim then szE lim r (szC lim x.ctors (a + 1 + (x.sort.length:Int) + (x.type.length:Int) + (x.body.length:Int) + km' lim x.params 0 + km' lim x.indices 0)) else a
def vh' (B:BoT) (lim:Int):Int:=szE lim B.ents ((B.orders.length:Int) + (B.prims.length:Int))
theorem vi' {lim a:Int} (h:¬ a < lim):∀ (l:List (List Nd)),km' lim l a = a
 | []=>rfl
 | l :: r=>by simp only [km']; rw [if_neg h]
theorem sZ' {lim a:Int} (h:¬ a < lim):∀ (l:List CtT),szC lim l a = a
 | []=>rfl
 | l :: r=>by simp only [szC]; rw [if_neg h]
theorem ta' {lim a:Int} (h:¬ a < lim):∀ (l:List EnT),szE lim l a = a
 | []=>rfl
 | l :: r=>by simp only [szE]; rw [if_neg h]
section
variable {C:Mem} {w:World} {B:BoT}
theorem gK' (hS:Sub C w) {ls:List (List Nd)} {vl:Value} (hl:SV (rSk rNd) C ls vl) {lim:Int} (h0:0 <= lim /\ lim <= 100000) :
  CC 10 #[vl,iV lim] w (fun e w'=>(e = .returned (iV (km' lim ls 0)) /\ 0 <= km' lim ls 0 /\ km' lim ls 0 <= 1200000000000) /\ Kp [] w w'):=by
 refine oF Tryz.func10 ?_;obtain ⟨RES,hRES⟩:∃ r,km' lim ls 0 = r:=⟨_,rfl⟩
 rw [hRES];have hll:=hl;obtain ⟨al,cl,rfl,hl1,hl2⟩:=hl;have l1:=hl1.1;refine cO (args:=[_,_]) 27 [.tmp 4] τok Tryz.func10 ?_;refine lp τok (σ:=Nat × Int) (fun q=>[(0,.slice al ls.length cl),(1,iV lim),(5,iV q.2),(6,iV (q.1:Int))])
  (fun q w'=>q.1 <= ls.length /\ 0 <= q.2 /\ q.2 <= 1200000000000 /\ Kp [] w w' /\ km' lim (ls.drop q.1) q.2 = RES) (fun q=>ls.length - q.1) (0,0) rfl
  ⟨rfl,rfl,rfl,rfl,trivial⟩ ⟨KV _,Int.le_refl _,by decide,Kp.refl _ _,hRES⟩ ?_
 clear hRES
 rintro ⟨i,a⟩ w1 ⟨hi,ha0,ha1,hk1,hres⟩;simp only at hi ha0 ha1 hres;have fin:km' lim (ls.drop i) a = a -> (Ending.returned (Go.Wx.one [iV a]) = .returned (iV RES) /\ 0 <= RES /\ RES <= 1200000000000) /\ Kp [] w w1:=fun h=>by
  rw [h] at hres;subst hres;exact ⟨⟨rfl,ha0,ha1⟩,hk1⟩
 refine ac' (fun g=>?_) (fun g=>?_)
 ·have g:(i:Int) < (ls.length:Int):=g
  refine ac' (fun g2=>?_) (fun g2=>?_)
  ·have g2:a < lim:=g2
   obtain ⟨l,hl,hd⟩:=af' (l:=ls) (k:=i) (by omega);rw [hd] at hres;simp only [km'] at hres;rw [if_pos g2] at hres;obtain ⟨b,o,c,pc,u,hu,hsu⟩:=qQ' hll hl;injection pc with q1 q2 q3
   subst q1 q3;obtain ⟨au,cu,rfl,hu1,_⟩:=id hsu;have lu:=hu1.1;refine i6 ?_;refine ix i rfl (by omega) ?_;refine ld (Cl.cell (hS.tr hk1 _ _ _ hu)) ?_;refine i6 ?_;refine i6 ?_;exact ⟨(i + 1,a + 1 + (l.length:Int)),by simp only; omega,rfl,⟨rfl,rfl,rfl,rfl,trivial⟩,by show i + 1 <= _; omega,by simp only; omega,by simp only; omega,hk1,hres⟩
  ·have g2:¬ a < lim:=g2
   exact fin (vi' g2 _)
 ·have g:¬ (i:Int) < (ls.length:Int):=g
  exact fin (by rw [JY (by omega)]; rfl)
theorem vj' (hS:Sub C w) {vb:Value} (hvb:BoV C B vb) {lim:Int} (h0:0 <= lim /\ lim <= 100000) :
  CC 5 #[vb,iV lim] w (fun e w'=>e = .returned (iV (vh' B lim)) /\ Kp [] w w'):=by
 refine oF Tryz.func5 ?_;obtain ⟨RES,hRES⟩:∃ r,vh' B lim = r:=⟨_,rfl⟩
 rw [hRES];unfold vh' at hRES;obtain ⟨v1,v2,v3,rfl,hO,hE,hP⟩:=hvb;obtain ⟨ao,co,rfl,hO1,_⟩:=id hO;obtain ⟨ae,ce,rfl,hE1,_⟩:=id hE;obtain ⟨ap,cp,rfl,hP1,_⟩:=id hP;have lO:=hO1.1;have lE:=hE1.1;have lP:=hP1.1;refine cO (args:=[_,_]) 90 [.tmp 4] τok Tryz.func5 ?_;refine new fun b2 w1 hb2 h2 hs1 hk1=>?_;have h2:Bk w1.heap b2 [iV B.vars,.slice ao B.orders.length co,.slice ae B.ents.length ce,iV B.nat,.slice ap B.prims.length cp] 26:=h2;refine lb h2 ?_;refine lb h2 ?_;refine i6 ?_;refine lp τok (σ:=Nat × Int) (fun q=>[(1,iV lim),(2,pt b2),(5,iV q.2),(6,iV (q.1:Int))])
  (fun q w'=>q.1 <= B.ents.length /\ 0 <= q.2 /\ q.2 <= 100000000000000 /\ Kp [] w1 w' /\ szE lim (B.ents.drop q.1) q.2 = RES) (fun q=>B.ents.length - q.1) (0,(B.orders.length:Int) + (B.prims.length:Int)) rfl
  ⟨rfl,rfl,rfl,rfl,trivial⟩ ⟨KV _,by simp only; omega,by simp only; omega,Kp.refl _ _,hRES⟩ ?_
 clear hRES
 rintro ⟨i,a⟩ w2 ⟨hi,ha0,ha1,hk2,hres⟩;simp only at hi ha0 ha1 hres;have k02:=hk1.tr hk2;have h22:=h2.kp hk2 (by simp);have fin:szE lim (B.ents.drop i) a = a -> Ending.returned (Go.Wx.one [iV a]) = .returned (iV RES) /\ Kp [] w w2:=fun h=>by
  rw [h] at hres;subst hres;exact ⟨rfl,k02⟩
 refine lb h22 ?_;refine ac' (fun g=>?_) (fun g=>?_)
 ·have g:(i:Int) < (B.ents.length:Int):=g
  refine ac' (fun g2=>?_) (fun g2=>?_)
  ·have g2:a < lim:=g2
   obtain ⟨x,hx,hd⟩:=af' (l:=B.ents) (k:=i) (by omega);rw [hd] at hres;simp only [szE] at hres;rw [if_pos g2] at hres;obtain ⟨be,oe,ce',pe,hat⟩:=hE.at hx;obtain ⟨w1e,w2e,w3e,w4e,w5e,w6e,hcs,hki,hso,hpa,hin,hct,hty,hbo⟩:=eL' hat;injection pe with q1 q2 q3
   subst q1 q3;obtain ⟨as_,cs_,rfl,hso1,_⟩:=id hso;obtain ⟨apa,cpa,rfl,hpa1,_⟩:=id hpa;obtain ⟨ain,cin,rfl,hin1,_⟩:=id hin;obtain ⟨act,cct,rfl,hct1,_⟩:=id hct;obtain ⟨aty,cty,rfl,hty1,_⟩:=id hty;obtain ⟨abo,cbo,rfl,hbo1,_⟩:=id hbo;have m1:=hso1.1;have m2:=hct1.1;have m3:=hty1.1;have m4:=hbo1.1;refine lb h22 ?_;refine ix i rfl (by omega) ?_;refine ldN _ rfl (fun j u hj=>(hS.tr k02) _ _ _ (hcs j u hj)) ?_;refine new fun b7 w3 hb7 h7 hs3 hk3=>?_;refine stN (vs:=[iV x.kind,.slice as_ x.sort.length cs_,.slice apa x.params.length cpa,.slice ain x.indices.length cin,.slice act x.ctors.length cct,.slice aty x.type.length cty,.slice abo x.body.length cbo]) h7 rfl (by simp [Value.oneCell']) fun w4 h7 hs4 hk4=>?_;have k24:=hk3.newSt hb7 hk4;have k04:=k02.tr k24;have h7:Bk w4.heap b7 [iV x.kind,.slice as_ x.sort.length cs_,.slice apa x.params.length cpa,.slice ain x.indices.length cin,.slice act x.ctors.length cct,.slice aty x.type.length cty,.slice abo x.body.length cbo] 37:=h7;refine aq' τok (fun z=>Kp [] w4 z) ?_;refine rV τok [0,1,2,3,4,5,6,7,8,9,10,11,12,13,14,15,16,19,20,21] 5 (mB 25 [17,18,22,23,24]) (kQd w4) ?_;refine i6 ?_;refine lk h7 ?_;refine i6 ?_;refine lk h7 ?_;refine i6 ?_;refine lk h7 ?_;refine i6 ?_;refine lk h7 ?_;refine lk h7 ?_;refine nV τok 17 4 (mB 25 [18,22,23,24]) ?_;refine ab' (gK' (w:=(dr w4)) (hS.tr (k04.dr _)) hpa h0) ?_;rintro e w5 ⟨⟨rfl,p0,p1⟩,hk5⟩;have hk5:Kp [] w4 w5:=hk5.rd;refine ⟨.inl hk5,?_⟩;refine rV τok [18] 3 (mR 25 22) hk5 ?_;refine i6 ?_;refine nV τok 22 2 (mR 25 23) ?_;refine ab' (gK' (hS.tr (k04.tr hk5)) hin h0) ?_;rintro e w6 ⟨⟨rfl,i0,i1⟩,hk6⟩;have k46:=hk5.tr hk6;refine ⟨.inl k46,?_⟩;refine rV τok [23,24] 0 (mR 25 25) k46 ?_;refine i6 ?_;refine dV ?_;obtain ⟨a1,ha1'⟩:∃ a1,a1 = a + 1 + (x.sort.length:Int) + (x.type.length:Int) + (x.body.length:Int) + km' lim x.params 0 + km' lim x.indices 0:=⟨_,rfl⟩
   rw [<- ha1'] at hres ⊢;have k06:=k04.tr k46;have h7:=h7.kp k46 (by simp);obtain ⟨RC,hRC⟩:∃ r,szC lim x.ctors a1 = r:=⟨_,rfl⟩
   rw [hRC] at hres;refine lp τok (σ:=Nat × Int) (fun q=>[(1,iV lim),(2,pt b2),(5,iV q.2),(6,iV (i:Int)),(7,pt b7),(8,iV (q.1:Int))])
    (fun q w'=>q.1 <= x.ctors.length /\ 0 <= q.2 /\ q.2 <= 100000000000000 /\ Kp [] w6 w' /\ szC lim (x.ctors.drop q.1) q.2 = RC) (fun q=>x.ctors.length - q.1) (0,a1) rfl
    ⟨rfl,rfl,rfl,rfl,rfl,rfl,trivial⟩ ⟨KV _,by simp only; omega,by simp only; omega,Kp.refl _ _,hRC⟩ ?_
   clear hRC
   rintro ⟨j,a2⟩ w7 ⟨hj,hj0,hj1,hk7,hRC⟩;simp only at hj hj0 hj1 hRC;have k07:=k06.tr hk7;have h77:=h7.kp hk7 (by simp);refine lb h77 ?_;have k17:Kp [] w1 w7:=(hk2.tr k24).tr (k46.tr hk7);have next:szC lim (x.ctors.drop j) a2 = a2 -> a2 = RC:=fun h=>by rw [<- hRC,h]
   refine ac' (fun y1=>?_) (fun y1=>?_)
   ·have y1:(j:Int) < (x.ctors.length:Int):=y1
    refine ac' (fun y2=>?_) (fun y2=>?_)
    ·have y2:a2 < lim:=y2
     obtain ⟨c,hc,hd⟩:=af' (l:=x.ctors) (k:=j) (by omega);rw [hd] at hRC;simp only [szC] at hRC;rw [if_pos y2] at hRC;obtain ⟨bc,oc,cc',pc,hca⟩:=hct.at hc;obtain ⟨va,vo,hccs,hva,hvo⟩:=ho' hca;injection pc with q1 q2 q3
     subst q1 q3;obtain ⟨aa,ca,rfl,_,_⟩:=id hva;obtain ⟨aoo,coo,rfl,_,_⟩:=id hvo;have hS7:=hS.tr k07;refine aq' τok (fun z=>Kp [] w7 z) ?_;refine rV τok [0,1,2,3,4,5,6,7,8,11,12,13,14,15,16,17] 5 (mB 21 [9,10,18,19,20]) (kQd w7) ?_;refine i6 ?_;refine lk h77 ?_;refine ix j rfl (by omega) ?_;refine ldK (hS7 _ _ _ (hccs 0 _ rfl)) ?_;refine lk h77 ?_;refine ix j rfl (by omega) ?_;refine ldK (hS7 _ _ _ (hccs 1 _ rfl)) ?_;refine nV τok 9 4 (mB 21 [10,18,19,20]) ?_;refine ab' (gK' (w:=(dr w7)) (hS.tr (k07.dr _)) hva h0) ?_;rintro e w8 ⟨⟨rfl,s0,s1⟩,hk8⟩;have hk8:Kp [] w7 w8:=hk8.rd;refine ⟨.inl hk8,?_⟩;refine rV τok [10] 3 (mR 21 18) hk8 ?_;refine i6 ?_;refine nV τok 18 2 (mR 21 19) ?_;refine ab' (gK' (hS7.tr hk8) hvo h0) ?_;rintro e w9 ⟨⟨rfl,t0,t1⟩,hk9⟩;have k79:=hk8.tr hk9;refine ⟨.inl k79,?_⟩;refine rV τok [19,20] 0 (mR 21 21) k79 ?_;refine i6 ?_;refine dV ?_;refine i6 ?_;exact ⟨(j + 1,a2 + 1 + km' lim c.args 0 + km' lim c.out 0),by simp only; omega,rfl,⟨rfl,rfl,rfl,rfl,rfl,rfl,trivial⟩,by show j + 1 <= _; omega,by simp only; omega,by simp only; omega,hk7.tr k79,hRC⟩
    ·have y2:¬ a2 < lim:=y2
     have:=next (sZ' y2 _);refine i6 ?_;exact ⟨(i + 1,a2),by simp only; omega,rfl,⟨rfl,rfl,rfl,rfl,trivial⟩,by show i + 1 <= _; omega,hj0,hj1,k17,by simp only; rw [this]; exact hres⟩
   ·have y1:¬ (j:Int) < (x.ctors.length:Int):=y1
    have:=next (by rw [JY (by omega)]; rfl);refine i6 ?_;exact ⟨(i + 1,a2),by simp only; omega,rfl,⟨rfl,rfl,rfl,rfl,trivial⟩,by show i + 1 <= _; omega,hj0,hj1,k17,by simp only; rw [this]; exact hres⟩
  ·have g2:¬ a < lim:=g2
   exact fin (ta' g2 _)
 ·have g:¬ (i:Int) < (B.ents.length:Int):=g
  exact fin (by rw [JY (by omega)]; rfl)
end
section
variable {w:World}
theorem rl' {α:Type} {R:Rd α} {b T:Nat} {x:α} {cs:List Value} (hb:Bk w.heap b cs T) (hd:R.den (Im [] w) cs x):SV R (Im [] w) [x] (.slice (some ⟨b,0,none⟩) 1 1):=by
 refine ⟨_,_,rfl,⟨by simp,.inr ⟨b,0,rfl,fun i y hy=>?_⟩⟩,by simp⟩
 match i,hy with
 | 0,hy =>
  obtain rfl:x = y:=by simpa using hy
  refine ⟨cs,hd,fun j v hj=>⟨?_,by simp⟩⟩;rw [Nat.zero_mul,Nat.add_zero,KW];exact hb.cl hj
 | i + 1,hy=>simp at hy
theorem tK' {α:Type} {R:Rd α} {b T:Nat} {x y:α} {cs ds:List Value} (hb:Bk w.heap b (cs ++ ds) T) (hd:R.den (Im [] w) cs x) (he:R.den (Im [] w) ds y):SV R (Im [] w) [x,y] (.slice (some ⟨b,0,none⟩) 2 2):=by
 have hl:=R.len hd;refine ⟨_,_,rfl,⟨by simp,.inr ⟨b,0,rfl,fun i z hz=>?_⟩⟩,by simp⟩
 match i,hz with
 | 0,hz =>
  obtain rfl:x = z:=by simpa using hz
  refine ⟨cs,hd,fun j v hj=>⟨?_,by simp⟩⟩;rw [Nat.zero_mul,Nat.add_zero,KW];exact hb.cl (by rw [List.getElem?_append_left (ai' hj)]; exact hj)
 | 1,hz =>
  obtain rfl:y = z:=by simpa using hz
  refine ⟨ds,he,fun j v hj=>⟨?_,by simp⟩⟩;rw [Nat.one_mul,KW];exact hb.cl (by rw [List.getElem?_append_right (by omega),hl,Nat.add_sub_cancel_left]; exact hj)
 | i + 2,hz=>simp at hz
theorem tb' {b:Nat} (hx:Bk w.heap b [iV 4,iV 0,iV 0,iV 9,iV 0,iV 0,iV 9,iV 0,iV 0] 42):SV rNd (Im [] w) rX (.slice (some ⟨b,0,none⟩) 3 3):=by
 refine ⟨_,_,rfl,⟨by simp [rX],.inr ⟨b,0,rfl,fun i m hm=>?_⟩⟩,KJ _⟩
 match i,hm with
 | 0,hm =>
  obtain rfl:(⟨4,0,0⟩:Nd) = m:=by simpa [rX] using hm
  exact ⟨_,⟨rfl,⟨by simp,by simp⟩,⟨by simp,by simp⟩,⟨by simp,by simp⟩⟩,fun j u hj=>⟨hx.cl (by
   match j,hj with
   | 0,hj=>exact hj
   | 1,hj=>exact hj
   | 2,hj=>exact hj
   | j + 3,hj=>simp at hj),by simp⟩⟩
 | 1,hm =>
  obtain rfl:(⟨9,0,0⟩:Nd) = m:=by simpa [rX] using hm
  exact ⟨_,⟨rfl,⟨by simp,by simp⟩,⟨by simp,by simp⟩,⟨by simp,by simp⟩⟩,fun j u hj=>⟨hx.cl (by
   match j,hj with
   | 0,hj=>exact hj
   | 1,hj=>exact hj
   | 2,hj=>exact hj
   | j + 3,hj=>simp at hj),by simp⟩⟩
 | 2,hm =>
  obtain rfl:(⟨9,0,0⟩:Nd) = m:=by simpa [rX] using hm
  exact ⟨_,⟨rfl,⟨by simp,by simp⟩,⟨by simp,by simp⟩,⟨by simp,by simp⟩⟩,fun j u hj=>⟨hx.cl (by
   match j,hj with
   | 0,hj=>exact hj
   | 1,hj=>exact hj
   | 2,hj=>exact hj
   | j + 3,hj=>simp at hj),by simp⟩⟩
 | i + 3,hm=>simp [rX] at hm
def xp' (w:World) (b3 b7 b9 b11:Nat) (vr:Value):Prop :=
 Bk w.heap b3 [iV 2,iV 1,iV 1,iV 3,iV 0,iV 0] 42 /\ Bk w.heap b7 [vr] 33 /\ Bk w.heap b9 [.slice none 0 0,.slice none 0 0,.slice (some ⟨b7,0,none⟩) 1 1,.slice none 0 0] 44 /\
  Bk w.heap b11 [iV 1,.slice (some ⟨b3,0,none⟩) 2 2,.slice none 0 0,.slice none 0 0,.slice (some ⟨b9,0,none⟩) 2 2,.slice none 0 0,.slice none 0 0] 37
theorem rT_v {b3:Nat} (h:Bk w.heap b3 [iV 2,iV 1,iV 1,iV 3,iV 0,iV 0] 42):SV rNd (Im [] w) rT (.slice (some ⟨b3,0,none⟩) 2 2) :=
 tK' (cs:=[iV 2,iV 1,iV 1]) (ds:=[iV 3,iV 0,iV 0]) h ⟨rfl,⟨by simp,by simp⟩,⟨by simp,by simp⟩,⟨by simp,by simp⟩⟩ ⟨rfl,⟨by simp,by simp⟩,⟨by simp,by simp⟩,⟨by simp,by simp⟩⟩
theorem wy' {b3 b7 b9 b11:Nat} {vr:Value} {r:List Nd} {nat:Int} (h:xp' w b3 b7 b9 b11 vr) (hr:SV rNd (Im [] w) r vr):BoV (Im [] w) (BN r nat) (.agg #[iV 0,.slice none 0 0,.slice (some ⟨b11,0,none⟩) 1 1,iV nat,.slice none 0 0]):=by
 obtain ⟨h3,h7,h9,h11⟩:=h;refine ⟨_,_,_,rfl,SV.nil _ _,rl' h11 ?_,SV.nil _ _⟩;obtain ⟨ar,cr,rfl,hr1,hr2⟩:=hr;have h71:SV (rSk rNd) (Im [] w) [r] (.slice (some ⟨b7,0,none⟩) 1 1):=rl' h7 ⟨_,_,rfl,hr2,hr1⟩;refine ⟨_,_,_,_,_,_,rfl,⟨by simp [enB],by simp [enB]⟩,rT_v h3,SV.nil _ _,SV.nil _ _,?_,SV.nil _ _,SV.nil _ _⟩;exact tK' (cs:=[.slice none 0 0,.slice none 0 0]) (ds:=[.slice (some ⟨b7,0,none⟩) 1 1,.slice none 0 0]) h9 ⟨_,_,rfl,SV.nil _ _,SV.nil _ _⟩ ⟨_,_,rfl,h71,SV.nil _ _⟩
theorem rm' (w:World) :
  CC 8 #[] w (fun e w'=>(∃ b3 b6 b7 b9 b11,e = .returned (.agg #[iV 0,.slice none 0 0,.slice (some ⟨b11,0,none⟩) 1 1,iV 0,.slice none 0 0]) /\ xp' w' b3 b7 b9 b11 (.slice (some ⟨b6,0,none⟩) 1 1) /\ Bk w'.heap b6 [iV 9,iV 0,iV 0] 42 /\ w.heap.size <= b3 /\ b3 < b6 /\ b6 < b7 /\ b7 < b9 /\ b9 < b11) /\ Kp [] w w'):=by
 refine oF Tryz.func8 ?_;refine cO (args:=[]) 13 [.cell 0 26] τok Tryz.func8 ?_;refine new fun b0 w0 hb0 h0 hs0 hk0=>?_;refine fill [iV 2,iV 1,iV 1,iV 3,iV 0,iV 0] rfl ?_;refine new fun b3 w1 hb3 h3 hs1 hk1=>?_;refine fill [iV 9,iV 0,iV 0] rfl ?_;refine new fun b6 w2 hb6 h6 hs2 hk2=>?_;refine fill [.slice (some ⟨b6,0,none⟩) 1 1] rfl ?_;refine new fun b7 w3 hb7 h7 hs3 hk3=>?_;refine fill [.slice none 0 0,.slice none 0 0,.slice (some ⟨b7,0,none⟩) 1 1,.slice none 0 0] rfl ?_;refine new fun b9 w4 hb9 h9 hs4 hk4=>?_;refine fill [iV 1,.slice (some ⟨b3,0,none⟩) 2 2,.slice none 0 0,.slice none 0 0,.slice (some ⟨b9,0,none⟩) 2 2,.slice none 0 0,.slice none 0 0] rfl ?_;refine new fun b11 w5 hb11 h11 hs5 hk5=>?_;have k45:=hk5;have k35:=hk4.tr k45;have k25:=hk3.tr k35;have k15:=hk2.tr k25;have k05:=hk1.tr k15;refine stN (vs:=[iV 0,.slice none 0 0,.slice (some ⟨b11,0,none⟩) 1 1,iV 0,.slice none 0 0]) (h0.kp k05 (by simp)) rfl (by simp [Value.oneCell']) fun w6 h06 hs6 hk6=>?_;refine lL' τok rfl [_,_,_,_,_] rfl (fun j v hj=>h06.cl hj) ?_;have z0:b0 = w.heap.size:=hb0;have z3:b3 = w0.heap.size:=hb3;have z6:b6 = w1.heap.size:=hb6;have z7:b7 = w2.heap.size:=hb7;have z9:b9 = w3.heap.size:=hb9;have z11:b11 = w4.heap.size:=hb11;refine ⟨⟨b3,b6,b7,b9,b11,rfl,⟨(h3.kp k15 (by simp)).kp hk6 (by simp; omega),(h7.kp k35 (by simp)).kp hk6 (by simp; omega),(h9.kp k45 (by simp)).kp hk6 (by simp; omega),h11.kp hk6 (by simp; omega)⟩,(h6.kp k25 (by simp)).kp hk6 (by simp; omega),by omega,by omega,by omega,by omega,by omega⟩,(hk0.tr k05).newSt hb0 hk6⟩
theorem rn' (w:World) :
  CC 4 #[] w (fun e w'=>e = .returned (.bool true) /\ Kp [] w w'):=by
 refine oF Tryz.func4 ?_;refine cO (args:=[]) 56 [.tmp 0] τok Tryz.func4 ?_;refine ab' (rm' w) ?_;rintro e w1 ⟨⟨b3,b6,b7,b9,b11,rfl,hN,h6,_⟩,hk1⟩;have hrI:SV rNd (Im [] w1) rI (.slice (some ⟨b6,0,none⟩) 1 1):=rl' h6 ⟨rfl,⟨by simp,by simp⟩,⟨by simp,by simp⟩,⟨by simp,by simp⟩⟩;refine ab' (dN' (w:=w1) (en:=0) (Im.sub [] w1) (fun _ _ _ h=>h.hold) (wy' (nat:=0) hN hrI) 9) ?_;rintro e w2 ⟨he,hk2⟩;rw [rk'] at he;obtain rfl:=he;refine ab' (rm' w2) ?_;rintro e w3 ⟨⟨c3,c6,c7,c9,c11,rfl,hN,g6,q1,q2,q3,q4,q5⟩,hk3⟩;refine new fun bb w4 hbb hb hs4 hk4=>?_;refine stN (vs:=[iV 0,.slice none 0 0,.slice (some ⟨c11,0,none⟩) 1 1,iV 0,.slice none 0 0]) hb rfl (by simp [Value.oneCell']) fun w5 hb hs5 hk5=>?_;have k35:=hk4.newSt hbb hk5;have zb:bb = w3.heap.size:=hbb;obtain ⟨g3,g7,g9,g11⟩:=hN;have g3:=g3.kp k35 (by simp);have g7:=g7.kp k35 (by simp);have g9:=g9.kp k35 (by simp);have g11':=g11.lt;have g11:=g11.kp k35 (by simp);refine lb hb ?_;refine ix 0 rfl (by omega) ?_;refine lb g11 ?_;refine ix 1 rfl (by omega) ?_;refine lb g9 ?_;refine fill [iV 4,iV 0,iV 0,iV 9,iV 0,iV 0,iV 9,iV 0,iV 0] rfl ?_;refine new fun bx w6 hbx hx hs6 hk6=>?_;refine ix 0 rfl (by omega) ?_;refine st (b:=c7) (o:=0) (g7.kp hk6 (by simp)) (by simp) rfl fun w7 g7 hs7 hk7=>?_;have g7:Bk w7.heap c7 [.slice (some ⟨bx,0,none⟩) 3 3] 33:=g7;have zx:bx = w5.heap.size:=hbx;have s5:=k35.size;refine st (b:=bb) (o:=3) ((hb.kp hk6 (by simp)).kp hk7 (by simp; omega)) (by simp) rfl fun w8 hb hs8 hk8=>?_;have hb:Bk w8.heap bb [iV 0,.slice none 0 0,.slice (some ⟨c11,0,none⟩) 1 1,iV (-1),.slice none 0 0] 26:=hb;have hL:xp' w8 c3 c7 c9 c11 (.slice (some ⟨bx,0,none⟩) 3 3):=⟨((g3.kp hk6 (by simp)).kp hk7 (by simp; omega)).kp hk8 (by simp; omega),g7.kp hk8 (by simp; omega),((g9.kp hk6 (by simp)).kp hk7 (by simp; omega)).kp hk8 (by simp; omega),((g11.kp hk6 (by simp)).kp hk7 (by simp; omega)).kp hk8 (by simp; omega)⟩
 have hx:=(hx.kp hk7 (by simp; omega)).kp hk8 (by simp; omega);have hrX:SV rNd (Im [] w8) rX (.slice (some ⟨bx,0,none⟩) 3 3):=tb' hx;have hBX:=wy' (nat:=-1) hL hrX;refine ldN [iV 0,.slice none 0 0,.slice (some ⟨c11,0,none⟩) 1 1,iV (-1),.slice none 0 0] rfl (bZ hb) ?_;refine ab' (dN' (w:=w8) (en:=0) (Im.sub [] w8) (fun _ _ _ h=>h.hold) hBX 9) ?_;rintro e w9 ⟨he,hk9⟩;rw [sX'] at he;obtain ⟨rfl,_⟩:=he;have hb:=hb.kp hk9 (by simp);refine ldN [iV 0,.slice none 0 0,.slice (some ⟨c11,0,none⟩) 1 1,iV (-1),.slice none 0 0] rfl (bZ hb) ?_;refine ab' (ra' (w:=w9) (C:=Im [] w8) ((Im.sub [] w8).tr hk9) (fun _ _ _ h=>KZ h.hold hk9.size) hBX 0) ?_;rintro e w10 ⟨rfl,hk10⟩;rw [sY'];refine ⟨rfl,?_⟩;have k23:Kp [] w w3:=(hk1.tr hk2).tr hk3;have k8:Kp [c7,bb] w3 w8:=((((k35.tr hk6).weak (by simp)).trans hk7 fun x hx _=>by simp at hx; simp [hx])).trans hk8 fun x hx _=>by simp at hx; simp [hx]
 have s23:=k23.size;have s2:=(hk1.tr hk2).size;exact ((k23.trans k8 fun x hx hl=>by simp at hx; omega).tr hk9).tr hk10
end
section
variable {w:World} {B:BoT}
end
end Go.Proofs.YtbnhfnfgabkelaaGreat
