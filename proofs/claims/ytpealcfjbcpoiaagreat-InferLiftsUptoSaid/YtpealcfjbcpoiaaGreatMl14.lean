import Derived.Test.YtpealcfjbcpoiaaGreatMl13
set_option linter.unusedVariables false
set_option linter.unusedSimpArgs false
set_option maxRecDepth 100000
set_option maxHeartbeats 4000000
namespace Go.Proofs.YtpealcfjbcpoiaaGreat
open Go.Wx Cd Tm Lv
theorem tms2 {D:Mem} {w:World} {b T:Nat} {z1 z2:Value} {x1 x2:Tr} (hB:Bk w.heap b [z1,z2] T) (hb:∀ o v,Cl w.heap b o v -> D b o v) (h1:TmV D x1 z1) (h2:TmV D x2 z2):TmsV D [x1,x2] (.slice (some ⟨b,0,none⟩) 2 2):=by
 refine ⟨some ⟨b,0,none⟩,2,rfl,⟨by simp,.inr ⟨b,0,rfl,fun i q hq=>?_⟩⟩,by simp⟩
 match i,hq with
 | 0,hq =>
  obtain rfl:row x1 = q:=by simpa using hq
  obtain ⟨a,c,rfl,hs,hc⟩:=h1;refine ⟨_,⟨a,c,rfl,hc,hs⟩,fun j u hj=>hb _ _ ?_⟩
  match j,hj with
  | 0,hj=>obtain rfl:=JB hj; exact hB.cl (o:=0) rfl
  | j + 1,hj=>cases hj
 | 1,hq =>
  obtain rfl:row x2 = q:=by simpa using hq
  obtain ⟨a,c,rfl,hs,hc⟩:=h2;refine ⟨_,⟨a,c,rfl,hc,hs⟩,fun j u hj=>hb _ _ ?_⟩
  match j,hj with
  | 0,hj=>obtain rfl:=JB hj; exact hB.cl (o:=1) rfl
  | j + 1,hj=>cases hj
 | i + 2,hq=>simp at hq
theorem lD' {x:Tr} (hx:Ok .tm x) (h11:x.n.op = 11) {k:Nat} (hk:k < x.ks.length):x.ks[k]? = some (kidD x k) /\ Ok .tm (kidD x k) /\ row x = (x.n :: rows (x.ks.take k)) ++ (row (kidD x k) ++ rows (x.ks.drop (k + 1))) /\ (rows (x.ks.take (k + 1))).length = (rows (x.ks.take k)).length + (row (kidD x k)).length:=by
 obtain ⟨hkk,_⟩:=aA' hx h11;obtain ⟨y,hy,_⟩:=af' hk;have e:kidD x k = y:=by simp [kidD,hkk,hy]
 rw [e];refine ⟨hy,?_,iy' hy,?_⟩
 ·obtain ⟨n,ks⟩:=x
  obtain ⟨hc,hok,hi⟩:=hx.kids;refine ⟨?_,dy' ks k y hi hy⟩;have:=eA' ks 0 k y hok hy;have h11:n.op = 11:=h11;have hn:nx Md.tm n (0 + k) = .tm:=by simp [nx,h11]
  rwa [hn] at this
 ·rw [al' hy,bz']
  simp [rows]
section
variable {B:BoT} {pl:List Int} {g:Nat} {rc:RcF} {C:Mem} {w:World} {N:Int} {m:List Int} {lv vm:Value}
theorem pt' (hB:GoodB B) (hrc:kA' B pl g rc) (hS:Sub C w) (hlv:LkV C B pl lv) {x:Tr} (hx:Ft (QB B) N x) (h11:x.n.op = 11) (hm:Mk pl m) (hml:m.length + 4 * (row x).length <= 100000) (hg:(row x).length <= g + 1) {vx:Value} (hvx:TmV C x vx) (hvm:SV rInt C m vm) :
  CC 147 #[lv,vx,vm] w (fun e w'=>e = .returned (.bool (eC' B rc x m)) /\ Kp [] w w'):=by
 refine oF Tryz.func147 ?_;obtain ⟨RES,hRES⟩:∃ r,eC' B rc x m = r:=⟨_,rfl⟩
 rw [hRES];unfold eC' at hRES;have hlen:=hx.len;obtain ⟨hkk,hkl,hb0,hb1⟩:=aA' hx.ok h11;obtain ⟨nb,hnb⟩:∃ nb:Nat,x.n.b = (nb:Int):=⟨x.n.b.toNat,by omega⟩
 have hks:x.ks.length = 2 + nb:=by omega
 obtain ⟨p1,p2,p3,p4⟩:=lD' hx.ok h11 (k:=0) (by omega);obtain ⟨q1,q2,q3,q4⟩:=lD' hx.ok h11 (k:=1) (by omega);have kF:∀ k,k < x.ks.length -> Ft (QB B) N (kidD x k):=fun k hk=>by
  have:=hx.kidN k (by rw [hkk]; exact hk) (b:=0) (by simp [kb,aJ',h11]);exact this.mono (by omega)
 have k0F:=kF 0 (by omega);have k1F:=kF 1 (by omega);have hrow:(row x).length = 1 + (rows x.ks).length:=by
  obtain ⟨n,ks⟩:=x;simp [row,Tr.ks];omega
 have hsub:∀ k,(rows (x.ks.take k)).length <= (rows x.ks).length:=fun k=>by
  have:=bz' (x.ks.take k) (x.ks.drop k);rw [List.take_append_drop] at this;rw [this,JK];omega
 have hs1:=hsub 1;have hs2:=hsub 2;have z0:rows (x.ks.take 0) = []:=rfl;rw [z0] at p3;have p4:(rows (x.ks.take 1)).length = (row (kidD x 0)).length:=by rw [show (1:Nat) = 0 + 1 from rfl,p4,z0]; simp
 have q4:(rows (x.ks.take 2)).length = (rows (x.ks.take 1)).length + (row (kidD x 1)).length:=q4;have h0p:=ag' (kidD x 0);have h1p:=ag' (kidD x 1);obtain ⟨i,en,so,ps,qi,hna,hi,hen,hxD,hGF⟩:=hB.fam (jk' hx.node' (.inr h11)) (KJ _);have hvx':=hvx;obtain ⟨bx,ox,cx,rfl,_,_,_,hcx⟩:=hvx.hd;have hvm':=hvm;obtain ⟨am,cm,rfl,hsm,_⟩:=hvm;have hlv':=hlv;obtain ⟨v1,v2,v3,v4,rfl,_,hEn,_,_⟩:=hlv;refine ee' (args:=[_,_,_]) 108 [.tmp 6] Tryz.func147 rfl rfl rfl (Nat.le_of_ble_eq_true rfl) ?_;refine bi' τok ?_;refine new fun b3 w1 hb3 h3 hs1' hk1=>?_;have h3:Bk w1.heap b3 [iV B.vars,v1,v2,iV B.nat,v3,v4] 171:=h3;refine bi' τok ?_;refine ab' (cP' (hS.tr hk1) hvx' hlen p3 p2 (i:=1) rfl) ?_;rintro e w2 ⟨rfl,hk2⟩;have k02:=hk1.tr hk2;refine bi' τok ?_;refine ab' (cP' (hS.tr k02) hvx' hlen q3 q2 (by simp; omega)) ?_;rintro e w3 ⟨rfl,hk3⟩;have k03:=k02.tr hk3;have k13:=hk2.tr hk3;obtain ⟨a7,c7,u7,hle7,hc7,z7,hsz7,hT7⟩:=hvx'.cut p3;injection u7 with u1 _ u2
 subst u1 u2;obtain ⟨a8,c8,u8,hle8,hc8,z8,hsz8,hT8⟩:=hvx'.cut q3;injection u8 with u1 _ u2
 subst u1 u2;obtain ⟨az7,cz7,rfl,_,_⟩:=id hT7;obtain ⟨az8,cz8,rfl,_,_⟩:=id hT8;have e1:(x.n :: rows (x.ks.take 1)).length = 1 + (row (kidD x 0)).length:=by simp; omega
 have e0:(x.n :: ([]:List Nd)).length = 1:=rfl;refine bi' τok ?_;refine as' τok (fun z=>Kp [] w3 z) ?_;refine rV τok (rg 0 9) 3 (mR 12 9) (kQd w3) ?_;refine dP' [iV B.vars,v1,v2,iV B.nat,v3,v4] rfl (fun j v hj=>by rw [KW]; exact (h3.kp k13 (by simp)).cl hj) ?_;refine cw' τok rfl 1 (1 + (row (kidD x 0)).length) (.slice az7 (row (kidD x 0)).length cz7) rfl (by simp) (by omega) (by omega) hsz7 ?_;refine cw' τok rfl (1 + (row (kidD x 0)).length) ((x.n :: rows (x.ks.take 1)).length + (row (kidD x 1)).length) (.slice az8 (row (kidD x 1)).length cz8) (by simp) rfl (by omega) (by omega) (by rw [<- e1]; exact hsz8) ?_;refine nV τok 9 2 (mR 12 10) ?_;refine fill [.slice az7 (row (kidD x 0)).length cz7,.slice az8 (row (kidD x 1)).length cz8] rfl ?_;refine new fun b9 w4 hb9 h9 hs4 hk4=>?_;have hk4:Kp [] w3 w4:=hk4.rd;have k04:=k03.tr hk4;have hb9l:w.heap.size <= b9:=by
  have:b9 = w3.heap.size:=hb9;have:=k03.size;omega
 refine ⟨.inl hk4,?_⟩;refine nV τok 10 1 (mR 12 11) ?_;refine ab' (lC' (C:=fun b o v=>C b o v \/ Cl w4.heap b o v /\ w.heap.size <= b) (N:=N) (ys:=[kidD x 0,kidD x 1]) hrc (fun b o v h=>h.elim (hS.tr k04 b o v) fun h=>h.1) (hlv'.mono fun _ _ _ h=>.inl h) (fun y hy=>by
  simp only [JJ,JZ,or_false] at hy;rcases hy with rfl | rfl
  ·exact ⟨k0F,by omega,by omega⟩
  ·exact ⟨k1F,by omega,by omega⟩) (by simp) hm (tms2 h9 (fun o v h=>.inr ⟨h,hb9l⟩) (hT7.mono fun _ _ _ h=>.inl h) (hT8.mono fun _ _ _ h=>.inl h)) (hvm'.mono fun _ _ _ h=>.inl h)) ?_
 rintro e w5 ⟨rfl,hk5⟩;have k35:=hk4.tr hk5;refine ⟨.inl k35,?_⟩;refine rV τok [11] 0 (mR 12 12) k35 ?_;refine dV ?_;have k05:=k03.tr k35;have e2:([kidD x 0,kidD x 1].all fun y=>rc y m) = (rc (kidD x 0) m && rc (kidD x 1) m):=by simp
 obtain ⟨r0,hr0⟩:∃ r0,(rc (kidD x 0) m && rc (kidD x 1) m) = r0:=⟨_,rfl⟩
 rw [e2,hr0];rw [hr0] at hRES;refine br (fun g1=>?_) (fun g1=>?_)
 ·have g1:r0 = false:=by simpa using g1
  rw [g1,Bool.false_and] at hRES;subst hRES;exact ⟨rfl,k05⟩
 have g1:r0 = true:=by simpa using g1
 rw [g1,Bool.true_and] at hRES
 clear e2
 refine bi' τok ?_;refine iq' τok rfl (1 + (row (kidD x 0)).length) ((x.n :: rows (x.ks.take 1)).length + (row (kidD x 1)).length) (.slice az8 (row (kidD x 1)).length cz8) (by simp) rfl (by omega) (by omega) (by rw [<- e1]; exact hsz8) ?_;refine ab' (jq' (hS.tr k05) q2 k1F.len hT8) ?_;rintro e w6 ⟨⟨uh,ua,rfl,huh,hua⟩,hk6⟩;have k06:=k05.tr hk6;have k16:=(k13.tr k35).tr hk6;refine bi' τok ?_;have huh':=huh;obtain ⟨bh,oh,ch,rfl,_,_,_,hch⟩:=huh.hd;obtain ⟨aa,ca,rfl,_,_⟩:=hua;have hS6:=hS.tr k06;obtain ⟨V,hV⟩:∃ V,(if (headT (kidD x 1)).n.op = 1 then ofM m (headT (kidD x 1)).n.a else 0) = V:=⟨_,rfl⟩
 refine fM' τok (σ:=Unit) (fun _=>[(1,.slice (some ⟨bx,ox,none⟩) (row x).length cx),(2,.slice am m.length cm),(3,pt b3),(8,iV (((x.n :: rows (x.ks.take 1)).length + (row (kidD x 1)).length:Nat):Int)),(10,.slice aa (argsT (kidD x 1)).length ca),(11,iV V)])
  (fun _ w'=>Kp [] w6 w') ?_ ?_
 ·refine ix 0 rfl (ag' _) ?_
  refine ldC hS6 (by simpa using hch 0 _ rfl) ?_;refine ac' (fun g2=>?_) (fun g2=>?_)
  ·have g2:(headT (kidD x 1)).n.op = 1:=g2
   rw [if_pos g2] at hV;refine ix 0 rfl (ag' _) ?_;refine ldC hS6 (by simpa using hch 1 _ rfl) ?_;have hp:=ba' k1F.head.ok.pl;refine ab' (tF' hS6 hvm' hp.2.2.1 (by omega)) ?_;rintro e w7 ⟨rfl,hk7⟩;rw [hV];exact ⟨(),rfl,⟨rfl,rfl,rfl,rfl,rfl,rfl,trivial⟩,hk7⟩
  ·have g2:¬ (headT (kidD x 1)).n.op = 1:=g2
   rw [if_neg g2] at hV;subst hV;exact ⟨(),rfl,⟨rfl,rfl,rfl,rfl,rfl,rfl,trivial⟩,Kp.refl _ _⟩
 rintro ⟨⟩ w6b hk6b;have k06:=k06.tr hk6b;have k16:=k16.tr hk6b
 clear hk6 hS6
 obtain ⟨d,hd⟩:∃ d,nu' (kidD x 1) m = d:=⟨_,rfl⟩
 rw [hd] at hRES;unfold nu' at hd;simp only [hV] at hd;refine fM' τok (σ:=Unit) (fun _=>[(1,.slice (some ⟨bx,ox,none⟩) (row x).length cx),(2,.slice am m.length cm),(3,pt b3),(8,iV (((x.n :: rows (x.ks.take 1)).length + (row (kidD x 1)).length:Nat):Int)),(12,.bool d)])
  (fun _ w'=>w6b = w') ?_ ?_
 ·refine ac' (fun g2=>?_) (fun g2=>?_)
  ·have g2:V = 2:=g2
   rw [decide_eq_true g2,Bool.true_or] at hd;subst hd;exact ⟨(),rfl,⟨rfl,rfl,rfl,rfl,rfl,trivial⟩,rfl⟩
  have g2:¬ V = 2:=g2;rw [decide_eq_false g2,Bool.false_or] at hd;refine ac' (fun g3=>?_) (fun g3=>?_)
  ·have g3:V = 1:=g3
   rw [decide_eq_true g3,Bool.true_and] at hd;subst hd;refine ⟨(),rfl,⟨rfl,rfl,rfl,rfl,?_,trivial⟩,rfl⟩;show some (Value.bool (decide _)) = _
   congr 3
   apply propext;omega
  ·have g3:¬ V = 1:=g3
   rw [decide_eq_false g3,Bool.false_and] at hd;subst hd;exact ⟨(),rfl,⟨rfl,rfl,rfl,rfl,rfl,trivial⟩,rfl⟩
 rintro ⟨⟩ _ rfl;have hS6:=hS.tr k06;obtain ⟨be,oe,ce,rfl,hat⟩:=hEn.at hen;obtain ⟨w1e,w2e,w3e,w4e,w5e,w6e,hcs,hki,hso,hpa,hin,hct,hty,hbo⟩:=eB' hat;obtain ⟨act,cct,rfl,_,_⟩:=id hct;refine bi' τok ?_;refine as' τok (fun z=>Kp [] w6b z) ?_;refine rV τok (rg 0 11) 0 (mR 11 11) (kQd w6b) ?_;refine ldK ((h3.kp k16 (by simp)).cl rfl) ?_;refine ix 0 rfl (ag' _) ?_;refine ldK (hS6 _ _ _ (by simpa using hcx 1 _ rfl)) ?_;refine ix i hna (ai' hen) ?_;refine ldK (hS6 _ _ _ (hcs 4 _ rfl)) ?_;refine dV ?_;refine fY' τok ?_;have kd:Kp [] w6b (dr w6b):=(Kp.refl [] w6b).dr _;refine ix 0 rfl (ag' _) ?_;refine ldC (Sub.dr hS6 _) (by simpa using hcx 2 _ rfl) ?_;refine lp τok (σ:=Nat) (fun k=>[(1,.slice (some ⟨bx,ox,none⟩) (row x).length cx),(2,.slice am m.length cm),(3,pt b3),(8,iV ((1 + (rows (x.ks.take (2 + k))).length:Nat):Int)),(12,.bool d),(13,.slice act en.ctors.length cct),(77,iV x.n.b),(78,iV (k:Int))])
  (fun k w'=>k <= nb /\ Kp [] w6b w' /\ cX' B rc x.n.a d m k ((kidsT x).drop (2 + k)) = RES) (fun k=>nb - k) 0 rfl
  ⟨rfl,rfl,rfl,?_,rfl,rfl,rfl,rfl,trivial⟩ ⟨KV _,kd,hRES⟩ ?_
 ·show some (iV _) = some (iV ((1 + (rows (x.ks.take (2 + 0))).length:Nat):Int))
  congr 3
  rw [show 2 + 0 = 2 from rfl,q4];simp;omega
 clear hRES
 rintro k w6 ⟨hk,hk6,hres⟩;refine ac' (fun g2=>?_) (fun g2=>?_)
 ·have g2:(k:Int) < x.n.b:=g2
  obtain ⟨r1,r2,r3,r4⟩:=lD' hx.ok h11 (k:=2 + k) (by omega);have kF:=kF (2 + k) (by omega);have hs3:=hsub (2 + k);have hs4:=hsub (2 + k + 1);have hkp:=ag' (kidD x (2 + k));have hdrop:(kidsT x).drop (2 + k) = kidD x (2 + k) :: (kidsT x).drop (2 + (k + 1)):=by
   rw [hkk];obtain ⟨y,hy,hd⟩:=af' (l:=x.ks) (k:=2 + k) (by omega);rw [r1] at hy;obtain rfl:=JB hy;exact hd
  rw [hdrop] at hres;simp only [cX'] at hres;refine ab' (cP' (hS6.tr hk6) hvx' hlen r3 r2 (by simp; omega)) ?_;rintro e w7 ⟨rfl,hk7⟩;have k07:=(k06.tr hk6).tr hk7;have k17:=(k16.tr hk6).tr hk7;obtain ⟨a9,c9,u9,hle9,hc9,vk,hsk,hTk⟩:=hvx'.cut r3;injection u9 with u1 _ u2
  subst u1 u2;have hle7:(x.n :: rows (x.ks.take (2 + k))).length + (row (kidD x (2 + k))).length <= cx:=by omega
  rw [hxD] at hres;refine br (fun g4=>?_) (fun g4=>?_)
  ·subst g4
   rw [Bool.true_and] at hres;refine ac' (fun g5=>?_) (fun g5=>?_)
   ·have g5:(k:Int) < en.ctors.length:=g5
    rw [decide_eq_true (show k < en.ctors.length by omega),if_pos rfl] at hres;obtain ⟨cc,hcc,_⟩:=af' (l:=en.ctors) (k:=k) (by omega);rw [List.getD_eq_getElem?_getD,hcc] at hres;simp only [Option.getD_some] at hres;obtain ⟨bc,oc,cc',e5,hca⟩:=hct.at hcc;injection e5 with u1 u2 u3
    subst u1 u3;obtain ⟨va,vo,hccs,hva,_⟩:=jg' hca;obtain ⟨aa',ca',rfl,_,_⟩:=hva;obtain ⟨ga,go,hgc⟩:=hGF.ct k cc hcc;have hla:cc.args.length <= 16:=by rw [hgc.args]; simp; exact hgc.la
    refine ix k rfl (ai' hcc) ?_;refine ldC (hS.tr k07) (hccs 0 _ rfl) ?_;refine as' τok (fun z=>Kp [] w7 z) ?_;refine rV τok (rg 0 7) 2 (mR 9 7) (kQd w7) ?_;refine dP' [iV B.vars,v1,.slice (some ⟨be,oe,none⟩) B.ents.length ce,iV B.nat,v3,v4] rfl (fun j v hj=>by rw [KW]; exact (h3.kp k17 (by simp)).cl hj) ?_;refine cw' τok rfl (x.n :: rows (x.ks.take (2 + k))).length _ vk (by simp; omega) rfl (by omega) hle7 hsk ?_;refine nV τok 7 1 (mR 9 8) ?_;refine ab' (hC' (w:=(dr w7)) hrc (Sub.dr (hS.tr k07) _) hlv' (kF.mono (Int.le_refl _)) hm (by omega) (by omega) hTk hvm' cc.args.length (by omega)) ?_;rintro e w8 ⟨rfl,hk8⟩;have hk8:Kp [] w7 w8:=hk8.rd;refine ⟨.inl hk8,?_⟩;refine rV τok [8] 0 (mR 9 9) hk8 ?_;refine dV ?_;refine br (fun g3=>?_) (fun g3=>?_)
    ·have g3:bd' rc cc.args.length (kidD x (2 + k)) m = false:=by simpa using g3
     rw [g3,Bool.false_and] at hres;subst hres;exact ⟨rfl,k07.tr hk8⟩
    ·have g3:bd' rc cc.args.length (kidD x (2 + k)) m = true:=by simpa using g3
     rw [g3,Bool.true_and] at hres;refine i6 ?_;refine ⟨k + 1,by omega,rfl,⟨rfl,rfl,rfl,?_,rfl,rfl,rfl,rfl,trivial⟩,by omega,(hk6.tr hk7).tr hk8,hres⟩;show some (iV _) = some (iV ((1 + (rows (x.ks.take (2 + (k + 1)))).length:Nat):Int))
     congr 3
     rw [show 2 + (k + 1) = 2 + k + 1 by omega,r4];simp;omega
   ·have g5:¬ (k:Int) < en.ctors.length:=g5
    rw [decide_eq_false (show ¬ k < en.ctors.length by omega)] at hres;rw [if_neg (by decide)] at hres;refine as' τok (fun z=>Kp [] w7 z) ?_;refine rV τok (rg 0 7) 2 (mR 9 7) (kQd w7) ?_;refine dP' [iV B.vars,v1,.slice (some ⟨be,oe,none⟩) B.ents.length ce,iV B.nat,v3,v4] rfl (fun j v hj=>by rw [KW]; exact (h3.kp k17 (by simp)).cl hj) ?_;refine cw' τok rfl (x.n :: rows (x.ks.take (2 + k))).length _ vk (by simp; omega) rfl (by omega) hle7 hsk ?_;refine nV τok 7 1 (mR 9 8) ?_;refine ab' (hC' (w:=(dr w7)) hrc (Sub.dr (hS.tr k07) _) hlv' (kF.mono (Int.le_refl _)) hm (by omega) (by omega) hTk hvm' 0 (by omega)) ?_;rintro e w8 ⟨rfl,hk8⟩;have hk8:Kp [] w7 w8:=hk8.rd;refine ⟨.inl hk8,?_⟩;refine rV τok [8] 0 (mR 9 9) hk8 ?_;refine dV ?_;refine br (fun g3=>?_) (fun g3=>?_)
    ·have g3:bd' rc 0 (kidD x (2 + k)) m = false:=by simpa using g3
     rw [g3,Bool.false_and] at hres;subst hres;exact ⟨rfl,k07.tr hk8⟩
    ·have g3:bd' rc 0 (kidD x (2 + k)) m = true:=by simpa using g3
     rw [g3,Bool.true_and] at hres;refine i6 ?_;refine ⟨k + 1,by omega,rfl,⟨rfl,rfl,rfl,?_,rfl,rfl,rfl,rfl,trivial⟩,by omega,(hk6.tr hk7).tr hk8,hres⟩;show some (iV _) = some (iV ((1 + (rows (x.ks.take (2 + (k + 1)))).length:Nat):Int))
     congr 3
     rw [show 2 + (k + 1) = 2 + k + 1 by omega,r4];simp;omega
  ·subst g4
   rw [Bool.false_and] at hres;rw [if_neg (by decide)] at hres;refine as' τok (fun z=>Kp [] w7 z) ?_;refine rV τok (rg 0 7) 2 (mR 9 7) (kQd w7) ?_;refine dP' [iV B.vars,v1,.slice (some ⟨be,oe,none⟩) B.ents.length ce,iV B.nat,v3,v4] rfl (fun j v hj=>by rw [KW]; exact (h3.kp k17 (by simp)).cl hj) ?_;refine cw' τok rfl (x.n :: rows (x.ks.take (2 + k))).length _ vk (by simp; omega) rfl (by omega) hle7 hsk ?_;refine nV τok 7 1 (mR 9 8) ?_;refine ab' (hC' (w:=(dr w7)) hrc (Sub.dr (hS.tr k07) _) hlv' (kF.mono (Int.le_refl _)) hm (by omega) (by omega) hTk hvm' 0 (by omega)) ?_;rintro e w8 ⟨rfl,hk8⟩;have hk8:Kp [] w7 w8:=hk8.rd;refine ⟨.inl hk8,?_⟩;refine rV τok [8] 0 (mR 9 9) hk8 ?_;refine dV ?_;refine br (fun g3=>?_) (fun g3=>?_)
   ·have g3:bd' rc 0 (kidD x (2 + k)) m = false:=by simpa using g3
    rw [g3,Bool.false_and] at hres;subst hres;exact ⟨rfl,k07.tr hk8⟩
   ·have g3:bd' rc 0 (kidD x (2 + k)) m = true:=by simpa using g3
    rw [g3,Bool.true_and] at hres;refine i6 ?_;refine ⟨k + 1,by omega,rfl,⟨rfl,rfl,rfl,?_,rfl,rfl,rfl,rfl,trivial⟩,by omega,(hk6.tr hk7).tr hk8,hres⟩;show some (iV _) = some (iV ((1 + (rows (x.ks.take (2 + (k + 1)))).length:Nat):Int))
    congr 3
    rw [show 2 + (k + 1) = 2 + k + 1 by omega,r4];simp;omega
 ·have g2:¬ (k:Int) < x.n.b:=g2
  rw [JY (by rw [hkk]; omega)] at hres;simp only [cX'] at hres;subst hres;exact ⟨rfl,k06.tr hk6⟩
end
theorem mN' {x:Tr} (hx:Ok .tm x) (h12:x.n.op = 12) {i:Nat} (hi:i < x.n.b.toNat):∃ f,x.ks[i]? = some f /\ Ok .tm (kidD x (2 * i)) /\ Ok .tm (kidD x (2 * i + 1)) /\ f = .mk f.n [kidD x (2 * i),kidD x (2 * i + 1)] /\
  (row x)[1 + (rows (x.ks.take i)).length]? = some f.n /\ f.n.op = 13 /\ 0 <= f.n.a /\ f.n.a <= 15 /\
  row x = (x.n :: (rows (x.ks.take i) ++ [f.n])) ++ (row (kidD x (2 * i)) ++ (row (kidD x (2 * i + 1)) ++ rows (x.ks.drop (i + 1)))) /\ row x = (x.n :: (rows (x.ks.take i) ++ (f.n :: row (kidD x (2 * i))))) ++ (row (kidD x (2 * i + 1)) ++ rows (x.ks.drop (i + 1))) /\
  (rows (x.ks.take (i + 1))).length = (rows (x.ks.take i)).length + (1 + ((row (kidD x (2 * i))).length + (row (kidD x (2 * i + 1))).length)) /\ (kidsT x).drop (2 * i) = kidD x (2 * i) :: kidD x (2 * i + 1) :: (kidsT x).drop (2 * (i + 1)):=by
 have hl:=aG' hx h12;have hk:=bg' hx h12;obtain ⟨f,hf,_⟩:=af' (l:=x.ks) (k:=i) (by omega);obtain ⟨ty,bo,hfe,h13,hfp,hty,hbo,_,hat,e1,e2⟩:=fQ' hx h12 hf;have hkT:kidsT x = x.ks.flatMap (·.ks):=by
  obtain ⟨n,ks⟩:=x;have h12:n.op = 12:=h12;have h2:n.op ≠ 2:=by omega
  simp only [kidsT,if_neg h2,if_pos h12,Tr.ks]
 have h2l:∀ k ∈ x.ks,k.ks.length = 2:=fun g hm=>by
  obtain ⟨j,hj⟩:=JH hm;obtain ⟨ty',bo',e,_⟩:=fQ' hx h12 hj;rw [e]
  rfl
 have gets:∀ j,j < 2 -> (kidsT x)[2 * i + j]? = f.ks[j]?:=fun j hj=>by
  obtain ⟨y,hy,_⟩:=af' (l:=kidsT x) (k:=2 * i + j) (by omega);have hy':=hy;rw [hkT] at hy;obtain ⟨g,hg1,hg2⟩:=tn' x.ks h2l _ y hy;rw [show (2 * i + j) / 2 = i by omega,hf] at hg1;obtain rfl:=JB hg1;rw [show (2 * i + j) % 2 = j by omega] at hg2;rw [hy',hg2]
 have g0:=gets 0 (by omega);have g1:=gets 1 (by omega);rw [hfe] at g0 g1;simp only [Tr.ks,Nat.add_zero,List.getElem?_cons_zero,List.getElem?_cons_succ] at g0 g1;have d0:kidD x (2 * i) = ty:=by simp [kidD,g0]
 have d1:kidD x (2 * i + 1) = bo:=by simp [kidD,g1]
 rw [d0,d1];have hpp:inR f.n.a 0 15 = true:=by
  have:inR f.n.a 0 15 = true /\ f.n.b = 0:=by simpa [ah',h13] using hfp
  exact this.1
 have:=aF'.1 hpp;refine ⟨f,hf,hty,hbo,hfe,hat,h13,this.1,this.2,e1,e2,?_,?_⟩
 ·rw [al' hf,bz',JK,hfe]
  simp [rows,row];omega
 ·obtain ⟨y,hy,hd⟩:=af' (ai' g0)
  obtain ⟨z,hz,hd'⟩:=af' (ai' g1);rw [g0] at hy;rw [g1] at hz;obtain rfl:=JB hy;obtain rfl:=JB hz;rw [hd,hd']
  rfl
theorem nv' {x:Tr} (hx:Ok .tm x) (h:x.n.op = 7):kidsT x = [kidD x 0,kidD x 1,kidD x 2] /\ Ok .tm (kidD x 0) /\ Ok .tm (kidD x 1) /\ row x = [x.n] ++ (row (kidD x 0) ++ (row (kidD x 1) ++ row (kidD x 2))) /\ row x = (x.n :: row (kidD x 0)) ++ (row (kidD x 1) ++ row (kidD x 2)) /\ row x = (x.n :: (row (kidD x 0) ++ row (kidD x 1))) ++ row (kidD x 2):=by
 obtain ⟨hk,hkl⟩:=bn' hx (by omega) (by omega);have hkc:ar' x.n = 3:=by simp [ar',h]
 obtain ⟨a,b,c,hab⟩:=kq' (l:=x.ks) (by omega);have hk':=hk;rw [hab] at hk';have e0:kidD x 0 = a:=by simp [kidD,hk']
 have e1:kidD x 1 = b:=by simp [kidD,hk']
 have e2:kidD x 2 = c:=by simp [kidD,hk']
 rw [e0,e1,e2];obtain ⟨n,ks⟩:=x;simp only [Tr.ks] at hab;subst hab;have hn:n.op = 7:=h;have h1:=hx.kids;have h2:=cd' h1.2.1 h1.2.2;have h3:=cd' h2.2.1 h2.2.2;have:nx Md.tm n 0 = .tm:=by simp [nx,hn]
 rw [this] at h2 h3;exact ⟨hk',h2.1,h3.1,by simp [row,rows,Tr.n],by simp [row,rows,Tr.n],by simp [row,rows,Tr.n]⟩
section
variable {B:BoT} {pl:List Int}
theorem tH' (hB:GoodB B) (hpl:∀ p ∈ pl,0 <= p /\ p <= 15) (hpll:pl.length <= 100):∀ g,kA' B pl g (bY' B pl g):=by
 intro g
 induction g with
 | zero =>
  intro C w N x m lv vx vm hS hlv hx hm hml hg hvx hvm;have:=ag' x;omega
 | succ g ih =>
  intro C w N x m lv vx vm hS hlv hx hm hml hg hvx hvm;refine oF Tryz.func123 ?_;obtain ⟨RES,hRES⟩:∃ r,bY' B pl (g + 1) x m = r:=⟨_,rfl⟩
  rw [hRES];simp only [bY'] at hRES;have hlen:=hx.len;have hall:=dT' (row x).length x (KJ _) hx.ok;have hfF:=hx.head;have hfl:=hfF.len;obtain ⟨_,_,rfl,_,_⟩:=id hvx;have hvm':=hvm;obtain ⟨am,cm,rfl,hsm,_⟩:=hvm;have hlv':=hlv;obtain ⟨v1,v2,v3,v4,rfl,_,_,_,hpv⟩:=hlv;refine cO (args:=[_,_,_]) 156 [.tmp 6] τok Tryz.func123 ?_;refine new fun b3 w1 hb3 h3 hs1 hk1=>?_;have h3:Bk w1.heap b3 [iV B.vars,v1,v2,iV B.nat,v3,v4] 171:=h3;refine ab' (jq' (hS.tr hk1) hx.ok hlen hvx) ?_;rintro e w2 ⟨⟨u,z,rfl,hu,hz⟩,hk2⟩;have k02:=hk1.tr hk2;have hu':=hu;obtain ⟨bh,oh,ch,rfl,_,_,_,hch⟩:=hu.hd;have hz':=hz;obtain ⟨aa,ca,rfl,_,_⟩:=hz';refine ldN [iV B.vars,v1,v2,iV B.nat,v3,v4] rfl (fun j v hj=>by rw [KW]; exact (h3.kp hk2 (by simp)).cl hj) ?_;refine ab' (lC' (N:=N) (C:=Cn C w1 w2) ih (Cn.sub (hS.tr hk1) hk2) (hlv'.mono fun _ _ _ h=>.inl h) (fun y hy=>⟨hx.args y hy,by have:=(hall.2.2.2 y hy).2; omega,by have:=(hall.2.2.2 y hy).2; omega⟩) (by have:=hx.few; omega) hm hz (hvm'.mono fun _ _ _ h=>.inl h)) ?_;rintro e w3 ⟨rfl,hk3⟩;have k03:=k02.tr hk3;have k13:=hk2.tr hk3;obtain ⟨ra,hra⟩:∃ r,((argsT x).all fun y=>bY' B pl g y m) = r:=⟨_,rfl⟩
  rw [hra] at hRES ⊢;refine br (fun g0=>?_) (fun g0=>?_)
  ·have g0:ra = false:=by simpa using g0
   rw [g0,Bool.false_and] at hRES;subst hRES;exact ⟨rfl,k03⟩
  have g0:ra = true:=by simpa using g0
  rw [g0,Bool.true_and] at hRES;refine ix 0 rfl (ag' _) ?_;refine ldN [iV (headT x).n.op,iV (headT x).n.a,iV (headT x).n.b] rfl (fun j v hj=>hS.tr k03 _ _ _ (hch j v hj)) ?_;refine new fun b9 w4 hb9 h9 hs4 hk4=>?_;refine stN (vs:=[iV (headT x).n.op,iV (headT x).n.a,iV (headT x).n.b]) h9 rfl (by simp [Value.oneCell']) fun w5 h9 hs5 hk5=>?_;have k35:=hk4.newSt hb9 hk5;have k05:=k03.tr k35;have h3:=h3.kp (k13.tr k35) (by simp);have hS5:=hS.tr k05;refine lb h9 ?_;refine ac' (fun g1=>?_) (fun g1=>?_)
  ·have g1:(headT x).n.op = 1:=g1
   rw [if_pos g1] at hRES;have hp:=ba' hfF.ok.pl;refine lb h9 ?_;refine ab' (tF' hS5 hvm' hp.2.2.1 (by omega)) ?_;rintro e w6 ⟨rfl,hk6⟩;have k06:=k05.tr hk6;refine ac' (fun g2=>?_) (fun g2=>?_)
   ·have g2:ofM m (headT x).n.a < 100:=g2
    rw [if_pos g2] at hRES;subst hRES;exact ⟨rfl,k06⟩
   have g2:¬ ofM m (headT x).n.a < 100:=g2;rw [if_neg g2] at hRES;obtain ⟨j,hj,hjv⟩:=(hm.of (v:=(headT x).n.a) hp.2.2.1).resolve_left g2;have hpl3:=hpl;obtain ⟨ap,cp,rfl,hsp,_⟩:=hpv;obtain ⟨p,hpp,_⟩:=af' (l:=pl) (k:=j) hj;obtain ⟨bp,op,rfl,hcp,_⟩:=hsp.int hpp;have hp15:=hpl p (JQ hpp);have egd:pl.getD (ofM m (headT x).n.a - 100).toNat 0 = p:=by
    rw [hjv,show ((100:Int) + j - 100).toNat = j by omega,List.getD_eq_getElem?_getD,hpp]
    rfl
   rw [egd] at hRES;have h3:=h3.kp hk6 (by simp);refine lb h3 ?_;refine i6 ?_;refine ix j (by omega) hj ?_;refine ldC (hS.tr k06) hcp ?_;refine ac' (fun g3=>?_) (fun g3=>?_)
   ·have g3:p < ((argsT x).length:Int):=g3
    rw [decide_eq_true g3,Bool.true_and] at hRES;obtain ⟨k,hk⟩:∃ k:Nat,p = (k:Int):=⟨p.toNat,by omega⟩
    obtain ⟨y,hy,_⟩:=af' (l:=argsT x) (k:=k) (by omega);have e9:nr' x p = y:=by simp [nr',hk,hy]
    rw [e9] at hRES;obtain ⟨by_,oy,cy,e5,zy,hzy,hzyT⟩:=hz.get hy;injection e5 with q1 q2 q3
    subst q1 q3;have k26:=(hk3.tr k35).tr hk6;have hSn:Sub (Cn C w1 w2) w6:=(Cn.sub (hS.tr hk1) hk2).tr k26;refine ix k hk (by omega) ?_;refine ldC hSn hzy ?_;have hyl:=(hall.2.2.2 y (JQ hy))
    refine ab' (tG' hSn hyl.1 (by omega) hzyT (hvm'.mono fun _ _ _ h=>.inl h) (by omega)) ?_;rintro e w7 ⟨rfl,hk7⟩;subst hRES;exact ⟨rfl,k06.tr hk7⟩
   ·have g3:¬ p < ((argsT x).length:Int):=g3
    rw [decide_eq_false g3,Bool.false_and] at hRES;subst hRES;exact ⟨rfl,k06⟩
  have g1:¬ (headT x).n.op = 1:=g1;rw [if_neg g1] at hRES;refine ac' (fun g2=>?_) (fun g2=>?_)
  ·have g2:(headT x).n.op = 11:=g2
   rw [if_pos g2] at hRES;refine ldN [iV B.vars,v1,v2,iV B.nat,v3,v4] rfl (bZ h3) ?_;refine ab' (pt' hB ih hS5 hlv' hfF g2 hm (by omega) (by omega) hu' hvm') ?_;rintro e w6 ⟨rfl,hk6⟩;subst hRES;exact ⟨rfl,k05.tr hk6⟩
  have g2:¬ (headT x).n.op = 11:=g2;rw [if_neg g2] at hRES;refine ac' (fun g3=>?_) (fun g3=>?_)
  ·have g3:(headT x).n.op = 4:=g3
   rw [if_pos (.inl g3)] at hRES;refine au' (p:=(headT x).n.op = 4) g3 ?_;obtain ⟨e1,e2,hkk,ho0⟩:=ff' hfF.ok (.inl g3);have f0:=hfF.kidN 0 (by rw [hkk]; simp) (b:=0) (by rcases (show (headT x).n.op = 4 \/ (headT x).n.op = 5 from (.inl g3)) with q | q <;> simp [kb,aJ',q]);have f1:=hfF.kidN 1 (by rw [hkk]; simp) (b:=1) (by rcases (show (headT x).n.op = 4 \/ (headT x).n.op = 5 from (.inl g3)) with q | q <;> simp [kb,aJ',q]);rw [Int.add_zero] at f0;have hlen2:(row (headT x)).length = 1 + (row (kidD (headT x) 0)).length + (row (kidD (headT x) 1)).length:=by rw [e1]; simp; omega
   have hp0:=ag' (kidD (headT x) 0);have hp1:=ag' (kidD (headT x) 1);refine ab' (cP' hS5 hu' hfl e1 ho0 (i:=1) rfl) ?_;rintro e w6a ⟨rfl,hk6⟩;have k06:=k05.tr hk6;obtain ⟨a7,c7,q7,hle7,hc7,v7,hs7,hT7⟩:=hu'.cut e1;injection q7 with q1 _ q2
   subst q1 q2;obtain ⟨a8,c8,q8,hle8,v8,hs8,hT8⟩:=hu'.cutT e2;injection q8 with q1 _ q2
   subst q1 q2;have z1:([(headT x).n]:List Nd).length = 1:=rfl;have z2:((headT x).n :: row (kidD (headT x) 0)).length = 1 + (row (kidD (headT x) 0)).length:=by simp; omega
   refine as' τok (fun z=>Kp [] w5 z) ?_;refine rV τok (rg 0 5) 13 (mR 18 5) (hk6.dr _) ?_;refine dP' [iV B.vars,v1,v2,iV B.nat,v3,v4] rfl (bZ h3) ?_;refine cw' τok rfl 1 (1 + (row (kidD (headT x) 0)).length) v7 rfl (by simp) (by omega) (by omega) hs7 ?_;refine nV τok 5 12 (mR 18 6) ?_;refine ab' (ih C (dr w6a) N (kidD (headT x) 0) m _ _ _ (Sub.dr (hS.tr k06) _) hlv' f0 hm (by omega) (by omega) hT7 hvm') ?_;rintro e w6 ⟨rfl,hk6b⟩;have hk6b:Kp [] w6a w6:=hk6b.rd;have k06:=k06.tr hk6b;have kS:=hk6.tr hk6b;refine ⟨.inl kS,?_⟩;obtain ⟨r0,hr0⟩:∃ r0,bY' B pl g (kidD (headT x) 0) m = r0:=⟨_,rfl⟩
   rw [hr0] at hRES ⊢;cases r0 with
   | false =>
    rw [Bool.false_and] at hRES;refine rV τok (rg 6 6) 6 (mR 18 12) kS ?_;refine gd' τok 12 13 5 (mR 18 13) (mB 18 [12,14,15,16,17]) rfl rfl rfl rfl rfl (by kernel_rfl) ?_ ?_
    ·refine ⟨.inl kS,?_⟩
     refine nV τok 13 4 (mR 18 14) ?_;refine ⟨.inl kS,?_⟩;refine nV τok 14 3 (mR 18 15) ?_;refine ⟨.inl kS,?_⟩;refine nV τok 15 2 (mR 18 16) ?_;refine ⟨.inl kS,?_⟩;refine rV τok [16,17] 0 (mR 18 18) kS ?_;refine dV ?_;rw [<- hRES];exact ⟨rfl,k06⟩
    ·refine ⟨.inl kS,?_⟩
     refine nV τok 12 4 (mR 18 14) ?_;refine ⟨.inl kS,?_⟩;refine nV τok 14 3 (mR 18 15) ?_;refine ⟨.inl kS,?_⟩;refine nV τok 15 2 (mR 18 16) ?_;refine ⟨.inl kS,?_⟩;refine rV τok [16,17] 0 (mR 18 18) kS ?_;refine dV ?_;rw [<- hRES];exact ⟨rfl,k06⟩
   | true =>
    rw [Bool.true_and] at hRES;refine rV τok (rg 6 6) 6 (mR 18 12) kS ?_;refine dP' [iV B.vars,v1,v2,iV B.nat,v3,v4] rfl (bZ h3) ?_;refine jU' τok rfl ((headT x).n :: row (kidD (headT x) 0)).length v8 (by simp; omega) hle8 hs8 ?_;refine gd' τok 12 13 5 (mR 18 13) (mB 18 [12,14,15,16,17]) rfl rfl rfl rfl rfl (by kernel_rfl) ?_ ?_
    ·refine ab' (bM' (hS.tr k06) m am cm hsm (by omega)) ?_
     rintro e wA ⟨⟨vo,rfl,hO⟩,hkA⟩;refine ⟨.inl (kS.tr hkA),?_⟩;refine nV τok 13 4 (mR 18 14) ?_;refine fill [iV 0] rfl ?_;refine new fun bX wB hbX hX hsX hkB=>?_;have hO6:=hO.kp hkB;have kB:Kp [] w6 wB:=hkA.tr hkB;refine ⟨.inl (kS.tr kB),?_⟩;refine nV τok 14 3 (mR 18 15) ?_;refine hO6.ap1 τok rfl rfl (by decide) 0 [iV 0] ⟨rfl,(by decide:(-9223372036854775808:Int) <= 0),(by decide:(0:Int) <= 9223372036854775807)⟩ (bZ hX) (by omega) (by simp only [maxLen]; omega) fun v9 w7 hO7 hk7 _=>?_;have k67:=kB.own hk7 hO6;refine ⟨.inl (kS.tr k67),?_⟩;refine nV τok 15 2 (mR 18 16) ?_;refine ab' (ih (Cn C w w7) w7 (N + 1) (kidD (headT x) 1) (m ++ [0]) _ _ _ (Cn.sub hS (k06.tr k67)) (hlv'.mono fun _ _ _ h=>.inl h) f1 (hm.snoc (.inl rfl)) (by simp only [JK,JV,JU]; omega) (by omega) (hT8.mono fun _ _ _ h=>.inl h) (Own.ints hO7 (fun b o v h=>.inr ⟨KQ k06.size h.1,h.2⟩) (by simp; omega))) ?_;rintro e w8 ⟨rfl,hk8⟩;have k68:=k67.tr hk8;refine ⟨.inl (kS.tr k68),?_⟩;refine rV τok [16,17] 0 (mR 18 18) (kS.tr k68) ?_;refine dV ?_;rw [<- hRES];exact ⟨rfl,k06.tr k68⟩
    ·refine fill [iV 0] rfl ?_
     refine new fun bX wA hbX hX hsX hkA=>?_;refine ⟨.inl (kS.tr hkA),?_⟩;refine nV τok 12 4 (mR 18 14) ?_;refine ab' (bM' (hS.tr (k06.tr hkA)) m am cm hsm (by omega)) ?_;rintro e wB ⟨⟨vo,rfl,hO⟩,hkB⟩;have hO6:=hO.low' hkA.size;have hX:=hX.kp hkB (by simp);have kB:Kp [] w6 wB:=hkA.tr hkB;refine ⟨.inl (kS.tr kB),?_⟩;refine nV τok 14 3 (mR 18 15) ?_;refine hO6.ap1 τok rfl rfl (by decide) 0 [iV 0] ⟨rfl,(by decide:(-9223372036854775808:Int) <= 0),(by decide:(0:Int) <= 9223372036854775807)⟩ (bZ hX) (by omega) (by simp only [maxLen]; omega) fun v9 w7 hO7 hk7 _=>?_;have k67:=kB.own hk7 hO6;refine ⟨.inl (kS.tr k67),?_⟩;refine nV τok 15 2 (mR 18 16) ?_;refine ab' (ih (Cn C w w7) w7 (N + 1) (kidD (headT x) 1) (m ++ [0]) _ _ _ (Cn.sub hS (k06.tr k67)) (hlv'.mono fun _ _ _ h=>.inl h) f1 (hm.snoc (.inl rfl)) (by simp only [JK,JV,JU]; omega) (by omega) (hT8.mono fun _ _ _ h=>.inl h) (Own.ints hO7 (fun b o v h=>.inr ⟨KQ k06.size h.1,h.2⟩) (by simp; omega))) ?_;rintro e w8 ⟨rfl,hk8⟩;have k68:=k67.tr hk8;refine ⟨.inl (kS.tr k68),?_⟩;refine rV τok [16,17] 0 (mR 18 18) (kS.tr k68) ?_;refine dV ?_;rw [<- hRES];exact ⟨rfl,k06.tr k68⟩
  have g3:¬ (headT x).n.op = 4:=g3;refine ac' (fun g4=>?_) (fun g4=>?_)
  ·have g4:(headT x).n.op = 5:=g4
   rw [if_pos (.inr g4)] at hRES;obtain ⟨e1,e2,hkk,ho0⟩:=ff' hfF.ok (.inr g4);have f0:=hfF.kidN 0 (by rw [hkk]; simp) (b:=0) (by rcases (show (headT x).n.op = 4 \/ (headT x).n.op = 5 from (.inr g4)) with q | q <;> simp [kb,aJ',q]);have f1:=hfF.kidN 1 (by rw [hkk]; simp) (b:=1) (by rcases (show (headT x).n.op = 4 \/ (headT x).n.op = 5 from (.inr g4)) with q | q <;> simp [kb,aJ',q]);rw [Int.add_zero] at f0;have hlen2:(row (headT x)).length = 1 + (row (kidD (headT x) 0)).length + (row (kidD (headT x) 1)).length:=by rw [e1]; simp; omega
   have hp0:=ag' (kidD (headT x) 0);have hp1:=ag' (kidD (headT x) 1);refine ab' (cP' hS5 hu' hfl e1 ho0 (i:=1) rfl) ?_;rintro e w6a ⟨rfl,hk6⟩;have k06:=k05.tr hk6;obtain ⟨a7,c7,q7,hle7,hc7,v7,hs7,hT7⟩:=hu'.cut e1;injection q7 with q1 _ q2
   subst q1 q2;obtain ⟨a8,c8,q8,hle8,v8,hs8,hT8⟩:=hu'.cutT e2;injection q8 with q1 _ q2
   subst q1 q2;have z1:([(headT x).n]:List Nd).length = 1:=rfl;have z2:((headT x).n :: row (kidD (headT x) 0)).length = 1 + (row (kidD (headT x) 0)).length:=by simp; omega
   refine as' τok (fun z=>Kp [] w5 z) ?_;refine rV τok (rg 0 5) 13 (mR 18 5) (hk6.dr _) ?_;refine dP' [iV B.vars,v1,v2,iV B.nat,v3,v4] rfl (bZ h3) ?_;refine cw' τok rfl 1 (1 + (row (kidD (headT x) 0)).length) v7 rfl (by simp) (by omega) (by omega) hs7 ?_;refine nV τok 5 12 (mR 18 6) ?_;refine ab' (ih C (dr w6a) N (kidD (headT x) 0) m _ _ _ (Sub.dr (hS.tr k06) _) hlv' f0 hm (by omega) (by omega) hT7 hvm') ?_;rintro e w6 ⟨rfl,hk6b⟩;have hk6b:Kp [] w6a w6:=hk6b.rd;have k06:=k06.tr hk6b;have kS:=hk6.tr hk6b;refine ⟨.inl kS,?_⟩;obtain ⟨r0,hr0⟩:∃ r0,bY' B pl g (kidD (headT x) 0) m = r0:=⟨_,rfl⟩
   rw [hr0] at hRES ⊢;cases r0 with
   | false =>
    rw [Bool.false_and] at hRES;refine rV τok (rg 6 6) 6 (mR 18 12) kS ?_;refine gd' τok 12 13 5 (mR 18 13) (mB 18 [12,14,15,16,17]) rfl rfl rfl rfl rfl (by kernel_rfl) ?_ ?_
    ·refine ⟨.inl kS,?_⟩
     refine nV τok 13 4 (mR 18 14) ?_;refine ⟨.inl kS,?_⟩;refine nV τok 14 3 (mR 18 15) ?_;refine ⟨.inl kS,?_⟩;refine nV τok 15 2 (mR 18 16) ?_;refine ⟨.inl kS,?_⟩;refine rV τok [16,17] 0 (mR 18 18) kS ?_;refine dV ?_;rw [<- hRES];exact ⟨rfl,k06⟩
    ·refine ⟨.inl kS,?_⟩
     refine nV τok 12 4 (mR 18 14) ?_;refine ⟨.inl kS,?_⟩;refine nV τok 14 3 (mR 18 15) ?_;refine ⟨.inl kS,?_⟩;refine nV τok 15 2 (mR 18 16) ?_;refine ⟨.inl kS,?_⟩;refine rV τok [16,17] 0 (mR 18 18) kS ?_;refine dV ?_;rw [<- hRES];exact ⟨rfl,k06⟩
   | true =>
    rw [Bool.true_and] at hRES;refine rV τok (rg 6 6) 6 (mR 18 12) kS ?_;refine dP' [iV B.vars,v1,v2,iV B.nat,v3,v4] rfl (bZ h3) ?_;refine jU' τok rfl ((headT x).n :: row (kidD (headT x) 0)).length v8 (by simp; omega) hle8 hs8 ?_;refine gd' τok 12 13 5 (mR 18 13) (mB 18 [12,14,15,16,17]) rfl rfl rfl rfl rfl (by kernel_rfl) ?_ ?_
    ·refine ab' (bM' (hS.tr k06) m am cm hsm (by omega)) ?_
     rintro e wA ⟨⟨vo,rfl,hO⟩,hkA⟩;refine ⟨.inl (kS.tr hkA),?_⟩;refine nV τok 13 4 (mR 18 14) ?_;refine fill [iV 0] rfl ?_;refine new fun bX wB hbX hX hsX hkB=>?_;have hO6:=hO.kp hkB;have kB:Kp [] w6 wB:=hkA.tr hkB;refine ⟨.inl (kS.tr kB),?_⟩;refine nV τok 14 3 (mR 18 15) ?_;refine hO6.ap1 τok rfl rfl (by decide) 0 [iV 0] ⟨rfl,(by decide:(-9223372036854775808:Int) <= 0),(by decide:(0:Int) <= 9223372036854775807)⟩ (bZ hX) (by omega) (by simp only [maxLen]; omega) fun v9 w7 hO7 hk7 _=>?_;have k67:=kB.own hk7 hO6;refine ⟨.inl (kS.tr k67),?_⟩;refine nV τok 15 2 (mR 18 16) ?_;refine ab' (ih (Cn C w w7) w7 (N + 1) (kidD (headT x) 1) (m ++ [0]) _ _ _ (Cn.sub hS (k06.tr k67)) (hlv'.mono fun _ _ _ h=>.inl h) f1 (hm.snoc (.inl rfl)) (by simp only [JK,JV,JU]; omega) (by omega) (hT8.mono fun _ _ _ h=>.inl h) (Own.ints hO7 (fun b o v h=>.inr ⟨KQ k06.size h.1,h.2⟩) (by simp; omega))) ?_;rintro e w8 ⟨rfl,hk8⟩;have k68:=k67.tr hk8;refine ⟨.inl (kS.tr k68),?_⟩;refine rV τok [16,17] 0 (mR 18 18) (kS.tr k68) ?_;refine dV ?_;rw [<- hRES];exact ⟨rfl,k06.tr k68⟩
    ·refine fill [iV 0] rfl ?_
     refine new fun bX wA hbX hX hsX hkA=>?_;refine ⟨.inl (kS.tr hkA),?_⟩;refine nV τok 12 4 (mR 18 14) ?_;refine ab' (bM' (hS.tr (k06.tr hkA)) m am cm hsm (by omega)) ?_;rintro e wB ⟨⟨vo,rfl,hO⟩,hkB⟩;have hO6:=hO.low' hkA.size;have hX:=hX.kp hkB (by simp);have kB:Kp [] w6 wB:=hkA.tr hkB;refine ⟨.inl (kS.tr kB),?_⟩;refine nV τok 14 3 (mR 18 15) ?_;refine hO6.ap1 τok rfl rfl (by decide) 0 [iV 0] ⟨rfl,(by decide:(-9223372036854775808:Int) <= 0),(by decide:(0:Int) <= 9223372036854775807)⟩ (bZ hX) (by omega) (by simp only [maxLen]; omega) fun v9 w7 hO7 hk7 _=>?_;have k67:=kB.own hk7 hO6;refine ⟨.inl (kS.tr k67),?_⟩;refine nV τok 15 2 (mR 18 16) ?_;refine ab' (ih (Cn C w w7) w7 (N + 1) (kidD (headT x) 1) (m ++ [0]) _ _ _ (Cn.sub hS (k06.tr k67)) (hlv'.mono fun _ _ _ h=>.inl h) f1 (hm.snoc (.inl rfl)) (by simp only [JK,JV,JU]; omega) (by omega) (hT8.mono fun _ _ _ h=>.inl h) (Own.ints hO7 (fun b o v h=>.inr ⟨KQ k06.size h.1,h.2⟩) (by simp; omega))) ?_;rintro e w8 ⟨rfl,hk8⟩;have k68:=k67.tr hk8;refine ⟨.inl (kS.tr k68),?_⟩;refine rV τok [16,17] 0 (mR 18 18) (kS.tr k68) ?_;refine dV ?_;rw [<- hRES];exact ⟨rfl,k06.tr k68⟩
  have g4:¬ (headT x).n.op = 5:=g4;rw [if_neg (by omega)] at hRES;refine ac' (fun g5=>?_) (fun g5=>?_)
  ·have g5:(headT x).n.op = 7:=g5
   rw [if_pos g5] at hRES;obtain ⟨hkk,ho0,ho1,e1,e2,e3⟩:=nv' hfF.ok g5;have f0:=hfF.kidN 0 (by rw [hkk]; simp) (b:=0) (by simp [kb,aJ',g5]);have f1:=hfF.kidN 1 (by rw [hkk]; simp) (b:=0) (by simp [kb,aJ',g5]);have f2:=hfF.kidN 2 (by rw [hkk]; simp) (b:=1) (by simp [kb,aJ',g5]);rw [Int.add_zero] at f0 f1;have hlen2:(row (headT x)).length = 1 + (row (kidD (headT x) 0)).length + (row (kidD (headT x) 1)).length + (row (kidD (headT x) 2)).length:=by rw [e1]; simp; omega
   have hp0:=ag' (kidD (headT x) 0);have hp1:=ag' (kidD (headT x) 1);have hp2:=ag' (kidD (headT x) 2);have z1:([(headT x).n]:List Nd).length = 1:=rfl;have z2:((headT x).n :: row (kidD (headT x) 0)).length = 1 + (row (kidD (headT x) 0)).length:=by simp; omega
   have z3:((headT x).n :: (row (kidD (headT x) 0) ++ row (kidD (headT x) 1))).length = 1 + (row (kidD (headT x) 0)).length + (row (kidD (headT x) 1)).length:=by simp; omega
   refine ab' (cP' hS5 hu' hfl e1 ho0 (i:=1) rfl) ?_;rintro e w6x ⟨rfl,hk6x⟩;refine ab' (cP' (hS5.tr hk6x) hu' hfl e2 ho1 (by simp; omega)) ?_;rintro e w6a ⟨rfl,hk6⟩;have hk6:=hk6x.tr hk6;have k06:=k05.tr hk6;obtain ⟨a7,c7,q7,hle7,hc7,v7,hs7,hT7⟩:=hu'.cut e1;injection q7 with q1 _ q2
   subst q1 q2;obtain ⟨a9,c9,q9,hle9,hc9,v9,hs9,hT9⟩:=hu'.cut e2;injection q9 with q1 _ q2
   subst q1 q2;obtain ⟨a8,c8,q8,hle8,v8,hs8,hT8⟩:=hu'.cutT e3;injection q8 with q1 _ q2
   subst q1 q2;obtain ⟨az7,cz7,rfl,_,_⟩:=id hT7;obtain ⟨az9,cz9,rfl,_,_⟩:=id hT9;refine as' τok (fun z=>Kp [] w5 z) ?_;refine rV τok (rg 0 9) 14 (mR 23 9) (hk6.dr _) ?_;refine dP' [iV B.vars,v1,v2,iV B.nat,v3,v4] rfl (bZ h3) ?_;refine cw' τok rfl 1 (1 + (row (kidD (headT x) 0)).length) (.slice az7 (row (kidD (headT x) 0)).length cz7) rfl (by simp) (by omega) (by omega) hs7 ?_;refine cw' τok rfl (1 + (row (kidD (headT x) 0)).length) (((headT x).n :: row (kidD (headT x) 0)).length + (row (kidD (headT x) 1)).length) (.slice az9 (row (kidD (headT x) 1)).length cz9) (by simp) rfl (by omega) (by omega) (by rw [<- z2]; exact hs9) ?_;refine nV τok 9 13 (mR 23 10) ?_;refine fill [.slice az7 (row (kidD (headT x) 0)).length cz7,.slice az9 (row (kidD (headT x) 1)).length cz9] rfl ?_;refine new fun bt w6b hbt ht hst hkt=>?_;have hkt:Kp [] w6a w6b:=hkt.rd;have hbtl:w.heap.size <= bt:=by
    have:bt = w6a.heap.size:=hbt;have:=k06.size;omega
   have kt:=hk6.tr hkt;have k06:=k06.tr hkt;refine ⟨.inl kt,?_⟩;refine nV τok 10 12 (mR 23 11) ?_;refine ab' (lC' (C:=fun b o v=>C b o v \/ Cl w6b.heap b o v /\ w.heap.size <= b) (N:=N) (ys:=[kidD (headT x) 0,kidD (headT x) 1]) ih (fun b o v h=>h.elim (hS.tr k06 b o v) fun h=>h.1) (hlv'.mono fun _ _ _ h=>.inl h) (fun y hy=>by
    simp only [JJ,JZ,or_false] at hy;rcases hy with rfl | rfl
    ·exact ⟨f0,by omega,by omega⟩
    ·exact ⟨f1,by omega,by omega⟩) (by simp) hm (tms2 ht (fun o v h=>.inr ⟨h,hbtl⟩) (hT7.mono fun _ _ _ h=>.inl h) (hT9.mono fun _ _ _ h=>.inl h)) (hvm'.mono fun _ _ _ h=>.inl h)) ?_
   rintro e w6 ⟨rfl,hk6b⟩;have k06:=k06.tr hk6b;have kS:=kt.tr hk6b;refine ⟨.inl kS,?_⟩;have ee:([kidD (headT x) 0,kidD (headT x) 1].all fun y=>bY' B pl g y m) = (bY' B pl g (kidD (headT x) 0) m && bY' B pl g (kidD (headT x) 1) m):=by simp
   obtain ⟨r0,hr0⟩:∃ r0,(bY' B pl g (kidD (headT x) 0) m && bY' B pl g (kidD (headT x) 1) m) = r0:=⟨_,rfl⟩
   rw [ee,hr0];rw [hr0] at hRES
   clear ee
   cases r0 with
   | false =>
    rw [Bool.false_and] at hRES;refine rV τok (rg 11 6) 6 (mR 23 17) kS ?_;refine gd' τok 17 18 5 (mR 23 18) (mB 23 [17,19,20,21,22]) rfl rfl rfl rfl rfl (by kernel_rfl) ?_ ?_
    ·refine ⟨.inl kS,?_⟩
     refine nV τok 18 4 (mR 23 19) ?_;refine ⟨.inl kS,?_⟩;refine nV τok 19 3 (mR 23 20) ?_;refine ⟨.inl kS,?_⟩;refine nV τok 20 2 (mR 23 21) ?_;refine ⟨.inl kS,?_⟩;refine rV τok [21,22] 0 (mR 23 23) kS ?_;refine dV ?_;rw [<- hRES];exact ⟨rfl,k06⟩
    ·refine ⟨.inl kS,?_⟩
     refine nV τok 17 4 (mR 23 19) ?_;refine ⟨.inl kS,?_⟩;refine nV τok 19 3 (mR 23 20) ?_;refine ⟨.inl kS,?_⟩;refine nV τok 20 2 (mR 23 21) ?_;refine ⟨.inl kS,?_⟩;refine rV τok [21,22] 0 (mR 23 23) kS ?_;refine dV ?_;rw [<- hRES];exact ⟨rfl,k06⟩
   | true =>
    rw [Bool.true_and] at hRES;refine rV τok (rg 11 6) 6 (mR 23 17) kS ?_;refine dP' [iV B.vars,v1,v2,iV B.nat,v3,v4] rfl (bZ h3) ?_;refine jU' τok rfl ((headT x).n :: (row (kidD (headT x) 0) ++ row (kidD (headT x) 1))).length v8 (by simp; omega) hle8 hs8 ?_;refine gd' τok 17 18 5 (mR 23 18) (mB 23 [17,19,20,21,22]) rfl rfl rfl rfl rfl (by kernel_rfl) ?_ ?_
    ·refine ab' (bM' (hS.tr k06) m am cm hsm (by omega)) ?_
     rintro e wA ⟨⟨vo,rfl,hO⟩,hkA⟩;refine ⟨.inl (kS.tr hkA),?_⟩;refine nV τok 18 4 (mR 23 19) ?_;refine fill [iV 0] rfl ?_;refine new fun bX wB hbX hX hsX hkB=>?_;have hO6:=hO.kp hkB;have kB:Kp [] w6 wB:=hkA.tr hkB;refine ⟨.inl (kS.tr kB),?_⟩;refine nV τok 19 3 (mR 23 20) ?_;refine hO6.ap1 τok rfl rfl (by decide) 0 [iV 0] ⟨rfl,(by decide:(-9223372036854775808:Int) <= 0),(by decide:(0:Int) <= 9223372036854775807)⟩ (bZ hX) (by omega) (by simp only [maxLen]; omega) fun v9 w7 hO7 hk7 _=>?_;have k67:=kB.own hk7 hO6;refine ⟨.inl (kS.tr k67),?_⟩;refine nV τok 20 2 (mR 23 21) ?_;refine ab' (ih (Cn C w w7) w7 (N + 1) (kidD (headT x) 2) (m ++ [0]) _ _ _ (Cn.sub hS (k06.tr k67)) (hlv'.mono fun _ _ _ h=>.inl h) f2 (hm.snoc (.inl rfl)) (by simp only [JK,JV,JU]; omega) (by omega) (hT8.mono fun _ _ _ h=>.inl h) (Own.ints hO7 (fun b o v h=>.inr ⟨KQ k06.size h.1,h.2⟩) (by simp; omega))) ?_;rintro e w8 ⟨rfl,hk8⟩;have k68:=k67.tr hk8;refine ⟨.inl (kS.tr k68),?_⟩;refine rV τok [21,22] 0 (mR 23 23) (kS.tr k68) ?_;refine dV ?_;rw [<- hRES];exact ⟨rfl,k06.tr k68⟩
    ·refine fill [iV 0] rfl ?_
     refine new fun bX wA hbX hX hsX hkA=>?_;refine ⟨.inl (kS.tr hkA),?_⟩;refine nV τok 17 4 (mR 23 19) ?_;refine ab' (bM' (hS.tr (k06.tr hkA)) m am cm hsm (by omega)) ?_;rintro e wB ⟨⟨vo,rfl,hO⟩,hkB⟩;have hO6:=hO.low' hkA.size;have hX:=hX.kp hkB (by simp);have kB:Kp [] w6 wB:=hkA.tr hkB;refine ⟨.inl (kS.tr kB),?_⟩;refine nV τok 19 3 (mR 23 20) ?_;refine hO6.ap1 τok rfl rfl (by decide) 0 [iV 0] ⟨rfl,(by decide:(-9223372036854775808:Int) <= 0),(by decide:(0:Int) <= 9223372036854775807)⟩ (bZ hX) (by omega) (by simp only [maxLen]; omega) fun v9 w7 hO7 hk7 _=>?_;have k67:=kB.own hk7 hO6;refine ⟨.inl (kS.tr k67),?_⟩;refine nV τok 20 2 (mR 23 21) ?_;refine ab' (ih (Cn C w w7) w7 (N + 1) (kidD (headT x) 2) (m ++ [0]) _ _ _ (Cn.sub hS (k06.tr k67)) (hlv'.mono fun _ _ _ h=>.inl h) f2 (hm.snoc (.inl rfl)) (by simp only [JK,JV,JU]; omega) (by omega) (hT8.mono fun _ _ _ h=>.inl h) (Own.ints hO7 (fun b o v h=>.inr ⟨KQ k06.size h.1,h.2⟩) (by simp; omega))) ?_;rintro e w8 ⟨rfl,hk8⟩;have k68:=k67.tr hk8;refine ⟨.inl (kS.tr k68),?_⟩;refine rV τok [21,22] 0 (mR 23 23) (kS.tr k68) ?_;refine dV ?_;rw [<- hRES];exact ⟨rfl,k06.tr k68⟩
  have g5:¬ (headT x).n.op = 7:=g5;rw [if_neg g5] at hRES;refine ac' (fun g6=>?_) (fun g6=>?_);rotate_left
  ·have g6:¬ (headT x).n.op = 12:=g6
   rw [if_neg g6] at hRES;subst hRES;exact ⟨rfl,k05⟩
  have g6:(headT x).n.op = 12:=g6;rw [if_pos g6] at hRES;have hflx:=aG' hfF.ok g6;obtain ⟨nb,hnb⟩:∃ nb:Nat,(headT x).n.b = (nb:Int):=⟨(headT x).n.b.toNat,by omega⟩
  have hnb':(headT x).n.b.toNat = nb:=by omega
  have hkk:=bg' hfF.ok g6;rw [hnb'] at hRES;rw [hnb] at h9;have hrow:(row (headT x)).length = 1 + (rows (headT x).ks).length:=by
   cases headT x;simp [row,Tr.ks];omega
  have hsub:∀ k,(rows ((headT x).ks.take k)).length <= (rows (headT x).ks).length:=fun k=>by
   have:=bz' ((headT x).ks.take k) ((headT x).ks.drop k);rw [List.take_append_drop] at this;rw [this,JK];omega
  refine as' τok (fun z=>Kp [] w5 z) ?_;refine rV τok [0,2,3] 3 (mB 6 [1,4,5]) (kQd w5) ?_;refine lk h9 ?_;refine nV τok 1 2 (mR 6 4) ?_;refine ab' (bM' (w:=(dr w5)) (Sub.dr hS5 _) m am cm hsm (by omega)) ?_;rintro e w6 ⟨⟨vo,rfl,hO⟩,hk6⟩;have hk6:Kp [] w5 w6:=hk6.rd;have hO:Own rInt 173 w5.heap.size w6 vo m:=hO;refine ⟨.inl hk6,?_⟩;refine nV τok 4 1 (mR 6 5) ?_;refine pr' hO nb (by omega) (by omega) (by omega) fun v7 w7 hO7 hk7=>?_;have k57:=hk6.own hk7 hO;refine ⟨.inl k57,?_⟩;refine rV τok [5] 0 (mR 6 6) k57 ?_;refine dV ?_;refine lb (h9.kp k57 (by simp)) ?_;obtain ⟨m',hm'⟩:∃ m',m ++ List.replicate nb 0 = m':=⟨_,rfl⟩
  rw [hm'] at hO7 hRES;have hmk:Mk pl m':=by rw [<- hm']; exact hm.zeros nb
  have hml':m'.length = m.length + nb:=by rw [<- hm']; simp
  refine lp τok (σ:=Nat) (fun i=>[(2,.slice am m.length cm),(3,pt b3),(7,.slice (some ⟨bh,oh,none⟩) (row (headT x)).length ch),(15,iV ((1 + (rows ((headT x).ks.take i)).length:Nat):Int)),(16,v7),(125,iV (nb:Int)),(126,iV (i:Int))])
   (fun i w'=>i <= nb /\ Kp [] w5 w' /\ Own rInt 173 w5.heap.size w' v7 m' /\ sx' (bY' B pl g) m m' ((kidsT (headT x)).drop (2 * i)) = RES) (fun i=>nb - i) 0 rfl
   ⟨rfl,rfl,rfl,rfl,rfl,rfl,rfl,trivial⟩ ⟨KV _,k57,hO7,hRES⟩ ?_
  clear hRES hO7 hO
  rintro i w8 ⟨hi,k58,hO8,hres⟩;have k08:=k05.tr k58;refine ac' (fun g7=>?_) (fun g7=>?_)
  ·have g7:(i:Int) < (nb:Int):=g7
   obtain ⟨f,hf,ho0,ho1,hfe,hat,h13,hfa0,hfa1,e1,e2,e3,hd⟩:=mN' hfF.ok g6 (i:=i) (by omega);obtain ⟨_,_,f0,f1⟩:=bt' hfF g6 (i:=i) (by omega);have hs3:=hsub (i + 1);have hp0:=ag' (kidD (headT x) (2 * i));have hp1:=ag' (kidD (headT x) (2 * i + 1));rw [hd] at hres;simp only [sx'] at hres;have z1:((headT x).n :: (rows ((headT x).ks.take i) ++ [f.n])).length = 2 + (rows ((headT x).ks.take i)).length:=by simp; omega
   have z2:((headT x).n :: (rows ((headT x).ks.take i) ++ (f.n :: row (kidD (headT x) (2 * i))))).length = 2 + (rows ((headT x).ks.take i)).length + (row (kidD (headT x) (2 * i))).length:=by simp; omega
   refine i6 ?_;refine ab' (cP' (hS.tr k08) hu' hfl e1 ho0 (by simp; omega)) ?_;rintro e w9 ⟨rfl,hk9⟩;refine ab' (cP' (hS.tr (k08.tr hk9)) hu' hfl e2 ho1 (by simp; omega)) ?_;rintro e w10 ⟨rfl,hk10⟩;have k810:=hk9.tr hk10;have k510:=k58.tr k810;have k010:=k08.tr k810;obtain ⟨a7,c7,q7,hle7,hc7,vt,hst,hTt⟩:=hu'.cut e1;injection q7 with q1 _ q2
   subst q1 q2;obtain ⟨a9,c9,q9,hle9,hc9,vb,hsb,hTb⟩:=hu'.cut e2;injection q9 with q1 _ q2
   subst q1 q2;have hO10:=hO8.kp k810;obtain ⟨a11,c11,rfl⟩:=hO8.len;refine as' τok (fun z=>Kp [] w5 z) ?_;refine rV τok (rg 0 7) 12 (mR 19 7) (k510.dr _) ?_;refine dP' [iV B.vars,v1,v2,iV B.nat,v3,v4] rfl (bZ h3) ?_;refine i6 ?_;refine cw' τok rfl ((headT x).n :: (rows ((headT x).ks.take i) ++ [f.n])).length _ vt (by simp; omega) rfl (by omega) (by omega) hst ?_;refine nV τok 7 11 (mR 19 8) ?_;refine ab' (ih C (dr w10) N (kidD (headT x) (2 * i)) m _ _ _ (Sub.dr (hS.tr k010) _) hlv' f0 hm (by omega) (by omega) hTt hvm') ?_;rintro e w11 ⟨rfl,hk11⟩;have hk11:Kp [] w10 w11:=hk11.rd;have k511:=k510.tr hk11;have k011:=k010.tr hk11;refine ⟨.inl k511,?_⟩;obtain ⟨r0,hr0⟩:∃ r0,bY' B pl g (kidD (headT x) (2 * i)) m = r0:=⟨_,rfl⟩
   rw [hr0] at hres ⊢;cases r0 with
   | false =>
    rw [Bool.false_and,Bool.false_and] at hres;refine rV τok (rg 8 8) 3 (mR 19 16) k511 ?_;refine nV τok 16 2 (mR 19 17) ?_;refine ⟨.inl k511,?_⟩;refine rV τok [17,18] 0 (mR 19 19) k511 ?_;refine dV ?_;subst hres;exact ⟨rfl,k011⟩
   | true =>
    rw [Bool.true_and] at hres;refine rV τok (rg 8 8) 3 (mR 19 16) k511 ?_;refine dP' [iV B.vars,v1,v2,iV B.nat,v3,v4] rfl (bZ h3) ?_;refine cw' τok rfl ((headT x).n :: (rows ((headT x).ks.take i) ++ (f.n :: row (kidD (headT x) (2 * i))))).length _ vb (by simp; omega) rfl (by omega) (by omega) hsb ?_;refine nV τok 16 2 (mR 19 17) ?_;refine ab' (ih (Cn C w w11) w11 (N + (headT x).n.b) (kidD (headT x) (2 * i + 1)) m' _ _ _ (Cn.sub hS k011) (hlv'.mono fun _ _ _ h=>.inl h) f1 hmk (by omega) (by omega) (hTb.mono fun _ _ _ h=>.inl h) (Own.ints (hO10.kp hk11) (fun b o v h=>.inr ⟨KQ k05.size h.1,h.2⟩) (by omega))) ?_;rintro e w12 ⟨rfl,hk12⟩;have k512:=k511.tr hk12;refine ⟨.inl k512,?_⟩;refine rV τok [17,18] 0 (mR 19 19) k512 ?_;refine dV ?_;obtain ⟨r1,hr1⟩:∃ r1,bY' B pl g (kidD (headT x) (2 * i + 1)) m' = r1:=⟨_,rfl⟩
    rw [hr1] at hres ⊢;refine br (fun g8=>?_) (fun g8=>?_)
    ·have g8:r1 = false:=by simpa using g8
     rw [g8,Bool.false_and] at hres;subst hres;exact ⟨rfl,k011.tr hk12⟩
    ·have g8:r1 = true:=by simpa using g8
     rw [g8,Bool.true_and] at hres;refine i6 ?_;refine ⟨i + 1,by omega,rfl,⟨rfl,rfl,rfl,?_,rfl,rfl,rfl,trivial⟩,by omega,k512,(hO10.kp hk11).kp hk12,hres⟩;show some (iV _) = some (iV ((1 + (rows ((headT x).ks.take (i + 1))).length:Nat):Int))
     congr 3
     rw [e3];simp;omega
  ·have g7:¬ (i:Int) < (nb:Int):=g7
   rw [JY (by omega)] at hres;simp only [sx'] at hres;subst hres;exact ⟨rfl,k08⟩
end
def cz':Nat -> Tr -> Bool
 | 0,t=>decide (t.n.op = 4) && decide ((headT (kidD t 0)).n.op = 9)
 | p + 1,t=>decide (t.n.op = 4) && cz' p (kidD t 1)
def gh' (rc:RcF):Nat -> Tr -> List Int -> Bool
 | 0,t,m=>rc t m
 | r + 1,t,m=>decide (t.n.op = 5) && (rc (kidD t 0) m && gh' rc r (kidD t 1) (m ++ [if r = 0 then 1 else 0]))
section
variable {B:BoT} {pl:List Int} {g:Nat} {rc:RcF} {C:Mem} {w:World} {N:Int} {m:List Int} {lv vm:Value}
theorem rw' (hS:Sub C w) {x:Tr} (hx:Ft (QB B) N x) {vx:Value} (hvx:TmV C x vx) (p:Nat) (hp:p <= 1000) :
  CC 107 #[vx,iV (p:Int)] w (fun e w'=>e = .returned (.bool (cz' p x)) /\ Kp [] w w'):=by
 refine oF Tryz.func107 ?_;obtain ⟨RES,hRES⟩:∃ r,cz' p x = r:=⟨_,rfl⟩
 rw [hRES];obtain ⟨_,_,rfl,_,_⟩:=id hvx;refine cO (args:=[_,_]) 36 [.tmp 4] τok Tryz.func107 ?_;refine lp τok (σ:=Nat × Tr × Int × Value) (fun q=>[(0,q.2.2.2),(1,iV (p:Int)),(5,iV (q.1:Int))])
  (fun q w'=>q.1 <= p /\ Ft (QB B) q.2.2.1 q.2.1 /\ TmV C q.2.1 q.2.2.2 /\ Kp [] w w' /\ cz' (p - q.1) q.2.1 = RES) (fun q=>(row q.2.1).length) (0,x,N,_) rfl
  ⟨rfl,rfl,rfl,trivial⟩ ⟨KV _,hx,hvx,Kp.refl _ _,hRES⟩ ?_
 clear hRES
 rintro ⟨i,y,M,vy⟩ w1 ⟨hi,hy,hvy,hk1,hres⟩;simp only at hi hy hvy hres;have hvy':=hvy;have hlen:=hy.len;obtain ⟨b,o,c,rfl,_,_,_,hcy⟩:=hvy.hd;have hS1:=hS.tr hk1;refine ix 0 rfl (ag' _) ?_;refine ldC hS1 (by simpa using hcy 0 _ rfl) ?_;refine ac' (fun g1=>?_) (fun g1=>?_)
 ·have g1:y.n.op = 4:=g1
  obtain ⟨e1,e2,hkk,ho0⟩:=ff' hy.ok (.inl g1);have f0:=hy.kidN 0 (by rw [hkk]; simp) (b:=0) (by simp [kb,aJ',g1]);have f1:=hy.kidN 1 (by rw [hkk]; simp) (b:=1) (by simp [kb,aJ',g1]);have hlen2:(row y).length = 1 + (row (kidD y 0)).length + (row (kidD y 1)).length:=by rw [e1]; simp; omega
  have hp0:=ag' (kidD y 0);have z1:([y.n]:List Nd).length = 1:=rfl;have z2:(y.n :: row (kidD y 0)).length = 1 + (row (kidD y 0)).length:=by simp; omega
  refine ab' (cP' hS1 hvy' hlen e1 ho0 (i:=1) rfl) ?_;rintro e w2 ⟨rfl,hk2⟩;obtain ⟨a7,c7,q7,hle7,hc7,v7,hs7,hT7⟩:=hvy'.cut e1;injection q7 with q1 _ q2
  subst q1 q2;obtain ⟨a8,c8,q8,hle8,v8,hs8,hT8⟩:=hvy'.cutT e2;injection q8 with q1 _ q2
  subst q1 q2;refine ac' (fun g2=>?_) (fun g2=>?_)
  ·have g2:(i:Int) = (p:Int):=g2
   rw [show p - i = 0 by omega] at hres;simp only [cz'] at hres;rw [decide_eq_true g1,Bool.true_and] at hres;refine iq' τok rfl 1 (1 + (row (kidD y 0)).length) v7 rfl (by simp) (by omega) (by omega) hs7 ?_;refine ab' (jq' (hS1.tr hk2) ho0 f0.len hT7) ?_;rintro e w3 ⟨⟨u,z,rfl,hu,hz⟩,hk3⟩;obtain ⟨bu,ou,cu,rfl,_,_,_,hcu⟩:=hu.hd;obtain ⟨_,_,rfl,_,_⟩:=hz;refine ix 0 rfl (ag' _) ?_;refine ldC ((hS1.tr hk2).tr hk3) (by simpa using hcu 0 _ rfl) ?_;subst hres;exact ⟨rfl,(hk1.tr hk2).tr hk3⟩
  ·have g2:¬ (i:Int) = (p:Int):=g2
   obtain ⟨q,hq⟩:∃ q,p - i = q + 1:=⟨p - i - 1,by omega⟩
   rw [hq] at hres;simp only [cz'] at hres;rw [decide_eq_true g1,Bool.true_and] at hres;refine jV' τok rfl (y.n :: row (kidD y 0)).length v8 (by simp; omega) hle8 hs8 ?_;refine i6 ?_;refine ⟨(i + 1,kidD y 1,M + 1,v8),by simp only; omega,rfl,⟨rfl,rfl,rfl,trivial⟩,by show i + 1 <= p; omega,f1,hT8,hk1.tr hk2,?_⟩;rw [show p - (i + 1) = q by omega];exact hres
 ·have g1:¬ y.n.op = 4:=g1
  have:cz' (p - i) y = false:=by
   cases p - i with
   | zero=>simp [cz',g1]
   | succ q=>simp [cz',g1]
  rw [this] at hres;subst hres;exact ⟨rfl,hk1⟩
theorem rx' (hrc:kA' B pl g rc) (hS:Sub C w) (hlv:LkV C B pl lv) {x:Tr} (hx:Ft (QB B) N x) (hm:Mk pl m) (hml:m.length + 4 * (row x).length <= 100000) (hg:(row x).length <= g) {vx:Value} (hvx:TmV C x vx) (hvm:SV rInt C m vm) (p:Nat) (hp:p <= 1000) :
  CC 108 #[lv,vx,iV (p:Int),vm] w (fun e w'=>e = .returned (.bool (gh' rc (p + 1) x m)) /\ Kp [] w w'):=by
 refine oF Tryz.func108 ?_;obtain ⟨RES,hRES⟩:∃ r,gh' rc (p + 1) x m = r:=⟨_,rfl⟩
 rw [hRES];have hvx':=hvx;obtain ⟨ax,cx,rfl,_,_⟩:=hvx;have hvm':=hvm;obtain ⟨am,cm,rfl,hsm,_⟩:=hvm;have hlv':=hlv;obtain ⟨v1,v2,v3,v4,rfl,_⟩:=hlv;refine cO (args:=[_,_,_,_]) 47 [.tmp 8] τok Tryz.func108 ?_;refine new fun b4 w1 hb4 h4 hs1 hk1=>?_;have h4:Bk w1.heap b4 [iV B.vars,v1,v2,iV B.nat,v3,v4] 171:=h4;refine ab' (bM' (hS.tr hk1) m am cm hsm (by omega)) ?_;rintro e w2 ⟨⟨vo,rfl,hO⟩,hk2⟩;refine lp τok (σ:=Nat × Tr × Int × List Int × Value × Value) (fun q=>[(1,q.2.2.2.2.1),(2,iV (p:Int)),(3,q.2.2.2.2.2),(4,pt b4),(9,iV (q.1:Int))])
  (fun q w'=>q.1 <= p + 1 /\ Ft (QB B) q.2.2.1 q.2.1 /\ Mk pl q.2.2.2.1 /\ q.2.2.2.1.length + 4 * (row q.2.1).length <= 100000 /\ (row q.2.1).length <= g /\ TmV C q.2.1 q.2.2.2.2.1 /\ Own rInt 173 w1.heap.size w' q.2.2.2.2.2 q.2.2.2.1 /\ Kp [] w1 w' /\ gh' rc (p + 1 - q.1) q.2.1 q.2.2.2.1 = RES) (fun q=>p + 1 - q.1) (0,x,N,m,_,vo) rfl
  ⟨rfl,rfl,rfl,rfl,rfl,trivial⟩ ⟨KV _,hx,hm,hml,hg,hvx',hO,hk2,hRES⟩ ?_
 clear hO hRES
 rintro ⟨i,y,M,l,vy,vl⟩ w3 ⟨hi,hy,hl,hll,hyg,hvy,hO,hk3,hres⟩;simp only at hi hy hl hll hyg hvy hO hres;have k03:=hk1.tr hk3;have hS3:=hS.tr k03;have hvy':=hvy;have hyp:=ag' y;obtain ⟨b,o,c,rfl,_,_,_,hcy⟩:=hvy.hd;have fin:=hrc (Cn C w w3) w3 M y l (.agg #[iV B.vars,v1,v2,iV B.nat,v3,v4]) _ vl (Cn.sub hS k03) (hlv'.mono fun _ _ _ h=>.inl h) hy hl hll hyg (hvy'.mono fun _ _ _ h=>.inl h) (Own.ints hO (fun b o v h=>.inr ⟨KQ hk1.size h.1,h.2⟩) (by omega));refine ac' (fun g1=>?_) (fun g1=>?_)
 ·have g1:(i:Int) <= (p:Int):=g1
  obtain ⟨r,hr⟩:∃ r,p + 1 - i = r + 1:=⟨p - i,by omega⟩
  rw [hr] at hres;simp only [gh'] at hres;refine ix 0 rfl (ag' _) ?_;refine ldC hS3 (by simpa using hcy 0 _ rfl) ?_;refine ac' (fun g2=>?_) (fun g2=>?_)
  ·have g2:y.n.op ≠ 5:=g2
   rw [decide_eq_false g2,Bool.false_and] at hres;subst hres;exact ⟨rfl,k03⟩
  have g2:y.n.op = 5:=by
   have g2:¬ (y.n.op ≠ 5):=g2;omega
  rw [decide_eq_true g2,Bool.true_and] at hres;obtain ⟨e1,e2,hkk,ho0⟩:=ff' hy.ok (.inr g2);have f0:=hy.kidN 0 (by rw [hkk]; simp) (b:=0) (by simp [kb,aJ',g2]);have f1:=hy.kidN 1 (by rw [hkk]; simp) (b:=1) (by simp [kb,aJ',g2]);have hlen:(row y).length = 1 + (row (kidD y 0)).length + (row (kidD y 1)).length:=by rw [e1]; simp; omega
  have hp0:=ag' (kidD y 0);have hp1:=ag' (kidD y 1);have z1:([y.n]:List Nd).length = 1:=rfl;have z2:(y.n :: row (kidD y 0)).length = 1 + (row (kidD y 0)).length:=by simp; omega
  refine ab' (cP' hS3 hvy' hy.len e1 ho0 (i:=1) rfl) ?_;rintro e w4 ⟨rfl,hk4⟩;have k04:=k03.tr hk4;obtain ⟨a7,c7,q7,hle7,hc7,v7,hs7,hT7⟩:=hvy'.cut e1;injection q7 with q1 _ q2
  subst q1 q2;obtain ⟨a8,c8,q8,hle8,v8,hs8,hT8⟩:=hvy'.cutT e2;injection q8 with q1 _ q2
  subst q1 q2;obtain ⟨av,cv,rfl⟩:=hO.len;have hO4:=hO.kp hk4;refine as' τok (fun z=>Kp [] w4 z) ?_;refine rV τok (rg 0 5) 2 (mR 7 5) (kQd w4) ?_;refine dP' [iV B.vars,v1,v2,iV B.nat,v3,v4] rfl (fun j v hj=>by rw [KW]; exact (h4.kp (hk3.tr hk4) (by simp)).cl hj) ?_;refine cw' τok rfl 1 (1 + (row (kidD y 0)).length) v7 rfl (by simp) (by omega) (by omega) hs7 ?_;refine nV τok 5 1 (mR 7 6) ?_;refine ab' (hrc (Cn C w w4) (dr w4) M (kidD y 0) l _ v7 _ (Sub.dr (Cn.sub hS k04) _) (hlv'.mono fun _ _ _ h=>.inl h) (f0.mono (by omega)) hl (by omega) (by omega) (hT7.mono fun _ _ _ h=>.inl h) (Own.ints hO4 (fun b o v h=>.inr ⟨KQ hk1.size h.1,h.2⟩) (by omega))) ?_;rintro e w5 ⟨rfl,hk5⟩;have hk5:Kp [] w4 w5:=hk5.rd;refine ⟨.inl hk5,?_⟩;refine rV τok [6] 0 (mR 7 7) hk5 ?_;refine dV ?_;refine br (fun g3=>?_) (fun g3=>?_)
  ·have g3:rc (kidD y 0) l = false:=by simpa using g3
   rw [g3,Bool.false_and] at hres;subst hres;exact ⟨rfl,k04.tr hk5⟩
  have g3:rc (kidD y 0) l = true:=by simpa using g3
  rw [g3,Bool.true_and] at hres;have step:∀ {mk:Int},mk = (if r = 0 then 1 else 0) -> ∀ bx w6,Bk w6.heap bx [iV mk] 173 -> Kp [] w5 w6 -> Own rInt 173 w1.heap.size w6 (.slice av l.length cv) l:=fun {mk} _ bx w6 _ hk6=>(hO4.kp hk5).kp hk6;refine ac' (fun g4=>?_) (fun g4=>?_)
  ·have g4:(i:Int) = (p:Int):=g4
   obtain rfl:r = 0:=by omega
   rw [if_pos rfl] at hres;refine fill [iV 1] rfl ?_;refine new fun bx w6 hbx hX hs6 hk6=>?_;have hO6:=(hO4.kp hk5).kp hk6;refine hO6.ap1 τok rfl rfl (by decide) 1 [iV 1] ⟨rfl,(by decide:(-9223372036854775808:Int) <= 1),(by decide:(1:Int) <= 9223372036854775807)⟩ (bZ hX) (by omega) (by simp only [maxLen]; omega) fun v9 w7 hO7 hk7 _=>?_;refine jV' τok rfl (y.n :: row (kidD y 0)).length v8 (by simp; omega) hle8 hs8 ?_;refine i6 ?_;refine ⟨(i + 1,kidD y 1,M + 1,l ++ [1],v8,v9),by simp only; omega,rfl,⟨rfl,rfl,rfl,rfl,rfl,trivial⟩,by show i + 1 <= p + 1; omega,f1,hl.snoc (by omega),?_,by simp only; omega,hT8,hO7,(((hk3.tr hk4).tr hk5).tr hk6).own hk7 hO6,?_⟩
   ·simp only [JK,JV,JU]
    omega
   ·rw [show p + 1 - (i + 1) = 0 by omega]
    exact hres
  ·have g4:¬ (i:Int) = (p:Int):=g4
   rw [if_neg (show ¬ r = 0 by omega)] at hres;refine fill [iV 0] rfl ?_;refine new fun bx w6 hbx hX hs6 hk6=>?_;have hO6:=(hO4.kp hk5).kp hk6;refine hO6.ap1 τok rfl rfl (by decide) 0 [iV 0] ⟨rfl,(by decide:(-9223372036854775808:Int) <= 0),(by decide:(0:Int) <= 9223372036854775807)⟩ (bZ hX) (by omega) (by simp only [maxLen]; omega) fun v9 w7 hO7 hk7 _=>?_;refine jV' τok rfl (y.n :: row (kidD y 0)).length v8 (by simp; omega) hle8 hs8 ?_;refine i6 ?_;refine ⟨(i + 1,kidD y 1,M + 1,l ++ [0],v8,v9),by simp only; omega,rfl,⟨rfl,rfl,rfl,rfl,rfl,trivial⟩,by show i + 1 <= p + 1; omega,f1,hl.snoc (by omega),?_,by simp only; omega,hT8,hO7,(((hk3.tr hk4).tr hk5).tr hk6).own hk7 hO6,?_⟩
   ·simp only [JK,JV,JU]
    omega
   ·rw [show p + 1 - (i + 1) = r by omega]
    exact hres
 ·have g1:¬ (i:Int) <= (p:Int):=g1
  rw [show p + 1 - i = 0 by omega] at hres;simp only [gh'] at hres;refine ldN [iV B.vars,v1,v2,iV B.nat,v3,v4] rfl (fun j v hj=>by rw [KW]; exact (h4.kp hk3 (by simp)).cl hj) ?_;refine ab' fin ?_;rintro e w4 ⟨rfl,hk4⟩;rw [hres];exact ⟨rfl,k03.tr hk4⟩
end
end Go.Proofs.YtpealcfjbcpoiaaGreat
