import Derived.Test.YtpealcfjbcpoiaaGreatMl19
set_option linter.unusedVariables false
set_option linter.unusedSimpArgs false
set_option maxRecDepth 100000
set_option maxHeartbeats 4000000
namespace Go.Proofs.YtpealcfjbcpoiaaGreat
open Go.Wx Cd Tm Lv
def LkP (C:Mem) (B:BoT) (known:Nat) (self:Int) (v:Value):Prop :=
 ∃ v1 v2 v3,v = .agg #[iV B.vars,v1,v2,iV B.nat,v3,iV (known:Int),iV self] /\ SV rOr C B.orders v1 /\ SV rEn C B.ents v2 /\ SV rPr C B.prims v3 /\ known <= B.ents.length
section
variable {C:Mem} {w:World} {B:BoT} {known:Nat} {self:Int}
theorem kL' (hS:Sub C w) {v2:Value} (hE:SV rEn C B.ents v2) {a:Nat} (ha:a < B.ents.length):∃ b o c ac cc,v2 = .slice (some ⟨b,o,none⟩) B.ents.length c /\ C b (o + a * 7) (iV (cr' B (a:Int)).kind) /\ C b (o + a * 7 + 4) (.slice ac (cr' B (a:Int)).ctors.length cc):=by
 obtain ⟨x,hx,_⟩:=af' (l:=B.ents) (k:=a) ha;obtain ⟨b,o,c,rfl,hat⟩:=hE.at hx;obtain ⟨w1e,w2e,w3e,w4e,w5e,w6e,hcs,hki,hso,hpa,hin,hct,hty,hbo⟩:=eB' hat;obtain ⟨ac,cc,rfl,_,_⟩:=hct;rw [fB' hx];exact ⟨b,o,c,ac,cc,rfl,hcs 0 _ rfl,hcs 4 _ rfl⟩
theorem hN' (hS:Sub C w) {v:Value} (hv:LkP C B known self v) {a:Int} (h0:0 <= a) :
  CC 69 #[v,iV a] w (fun e w'=>e = .returned (.bool (ev' B known a)) /\ Kp [] w w'):=by
 refine oF Tryz.func69 ?_;obtain ⟨v1,v2,v3,rfl,hO,hE,hP,hk⟩:=hv;refine cO (args:=[_,_]) 19 [.tmp 4] τok Tryz.func69 ?_;refine new fun b2 w1 hb2 h2 hs1 hk1=>?_;have h2:Bk w1.heap b2 [iV B.vars,v1,v2,iV B.nat,v3,iV (known:Int),iV self] 61:=h2;refine lb h2 ?_;refine ac' (fun g=>?_) (fun g=>?_)
 ·have g:a < (known:Int):=g
  obtain ⟨n,rfl⟩:∃ n:Nat,a = (n:Int):=⟨a.toNat,by omega⟩
  obtain ⟨b,o,c,ac,cc,rfl,hc1,hc2⟩:=kL' hS hE (a:=n) (by omega);refine lb h2 ?_;refine ix n rfl (by omega) ?_;refine ld (Cl.cell ((hS.tr hk1) _ _ _ hc1)) ?_;refine ⟨?_,hk1⟩;have:ev' B known (n:Int) = decide ((cr' B (n:Int)).kind = 1):=by
   unfold ev';rw [decide_eq_true (by omega:(0:Int) <= (n:Int)),decide_eq_true g]
   rfl
  rw [this]
  rfl
 ·have g:¬ a < (known:Int):=g
  refine ⟨?_,hk1⟩;have:ev' B known a = false:=by
   unfold ev';rw [decide_eq_false g];simp
  rw [this]
  rfl
theorem tT' (hS:Sub C w) {v:Value} (hv:LkP C B known self v) {m:Nd} (hm:ah' m = true) (hi:I64 m.op /\ I64 m.a /\ I64 m.b) :
  CC 41 #[v,.agg #[iV m.op,iV m.a,iV m.b]] w (fun e w'=>e = .returned (.bool (bR' B known self m)) /\ Kp [] w w'):=by
 refine oF Tryz.func41 ?_;have hvv:=hv;obtain ⟨v1,v2,v3,rfl,hO,hE,hP,hk⟩:=hv;have hpb:=ba' hm;obtain ⟨RES,hRES⟩:∃ r,bR' B known self m = r:=⟨_,rfl⟩
 rw [hRES];unfold bR' at hRES;refine cO (args:=[_,_]) 72 [.tmp 4] τok Tryz.func41 ?_;refine new fun b2 w1 hb2 h2 hs1 hk1=>?_;have h2:Bk w1.heap b2 [iV B.vars,v1,v2,iV B.nat,v3,iV (known:Int),iV self] 61:=h2;refine new fun b3 w2 hb3 h3 hs2 hk2=>?_;have h3:Bk w2.heap b3 [iV m.op,iV m.a,iV m.b] 45:=h3;have h2:=h2.kp hk2 (by simp);have k02:=hk1.tr hk2;have hS2:=hS.tr k02;have hld:∀ (j:Nat) (u:Value),[iV B.vars,v1,v2,iV B.nat,v3,iV (known:Int),iV self][j]? = some u -> Cl w2.heap b2 (0 + j) u:=fun j u hj=>by rw [KW]; exact h2.cl hj
 refine lb h3 ?_;refine ac' (fun g1=>?_) (fun g1=>?_)
 ·have g1:m.op = 3:=g1
  rw [if_pos g1] at hRES;refine lb h3 ?_;refine lb h2 ?_;subst hRES;exact ⟨rfl,k02⟩
 have g1:¬ m.op = 3:=g1;rw [if_neg g1] at hRES;refine ac' (fun g2=>?_) (fun g2=>?_)
 ·have g2:m.op = 8:=g2
  rw [if_pos g2] at hRES;refine lb h3 ?_;refine lb h2 ?_;refine ac' (fun g=>?_) (fun g=>?_)
  ·have g:m.a < (known:Int):=g
   obtain ⟨n,hn⟩:∃ n:Nat,m.a = (n:Int):=⟨m.a.toNat,by omega⟩
   obtain ⟨b,o,c,ac,cc,rfl,hc1,hc2⟩:=kL' hS hE (a:=n) (by omega);refine lb h2 ?_;refine lb h3 ?_;refine ix n hn (by omega) ?_;refine ld (Cl.cell (hS2 _ _ _ hc1)) ?_;rw [decide_eq_true hpb.2.2.1,decide_eq_true g,hn] at hRES;subst hRES;exact ⟨rfl,k02⟩
  ·have g:¬ m.a < (known:Int):=g
   rw [decide_eq_false g] at hRES;simp only [Bool.false_and,Bool.and_false] at hRES;subst hRES;exact ⟨rfl,k02⟩
 have g2:¬ m.op = 8:=g2;rw [if_neg g2] at hRES;refine ac' (fun g3=>?_) (fun g3=>?_)
 ·have g3:m.op = 9:=g3
  rw [if_pos g3] at hRES;refine lb h3 ?_;refine lb h2 ?_;refine ac' (fun g=>?_) (fun g=>?_)
  ·have g:m.a = self:=g
   rw [decide_eq_true g] at hRES;simp only [Bool.true_or] at hRES;subst hRES;exact ⟨rfl,k02⟩
  ·have g:¬ m.a = self:=g
   rw [decide_eq_false g] at hRES;simp only [Bool.false_or] at hRES;refine ldN [iV B.vars,v1,v2,iV B.nat,v3,iV (known:Int),iV self] rfl hld ?_;refine lb h3 ?_;refine ab' (hN' hS2 hvv hpb.2.2.1) ?_;rintro e w3 ⟨rfl,hk3⟩;subst hRES;exact ⟨rfl,k02.tr hk3⟩
 have g3:¬ m.op = 9:=g3;rw [if_neg g3] at hRES;refine ac' (fun g4=>?_) (fun g4=>?_)
 ·have g4:m.op = 11:=g4
  rw [if_pos g4] at hRES;refine ldN [iV B.vars,v1,v2,iV B.nat,v3,iV (known:Int),iV self] rfl hld ?_;refine lb h3 ?_;refine ab' (hN' hS2 hvv hpb.2.2.1) ?_;rintro e w3 ⟨rfl,hk3⟩;subst hRES;exact ⟨rfl,k02.tr hk3⟩
 have g4:¬ m.op = 11:=g4;rw [if_neg g4] at hRES;refine ac' (fun g5=>?_) (fun g5=>?_)
 ·have g5:m.op = 10:=g5
  rw [if_pos g5] at hRES;refine as' τok (fun z=>Kp [] w2 z) ?_;refine rV τok [0,1,2] 16 (mR 19 3) (kQd w2) ?_;refine dP' [iV B.vars,v1,v2,iV B.nat,v3,iV (known:Int),iV self] rfl hld ?_;refine lk h3 ?_;refine nV τok 3 15 (mR 19 4) ?_;refine ab' (hN' (w:=(dr w2)) hS2 hvv hpb.2.2.1) ?_;rintro e w3 ⟨rfl,hk3⟩;have hk3:Kp [] w2 w3:=hk3.rd;refine ⟨.inl hk3,?_⟩;refine rV τok (rg 4 15) 0 (mR 19 19) hk3 ?_;cases hf:ev' B known m.a with
  | false =>
   rw [hf] at hRES;simp only [Bool.false_and] at hRES;refine dV ?_;subst hRES;exact ⟨rfl,k02.tr hk3⟩
  | true =>
   rw [hf] at hRES;simp only [Bool.true_and] at hRES;have hf':=hf;simp only [ev',Bool.and_eq_true,decide_eq_true_eq] at hf';obtain ⟨n,hn⟩:∃ n:Nat,m.a = (n:Int):=⟨m.a.toNat,by omega⟩
   obtain ⟨b,o,c,ac,cc,rfl,hc1,hc2⟩:=kL' hS hE (a:=n) (by omega);refine lk h3 ?_;refine lk h2 ?_;refine lk h3 ?_;refine ix n hn (by omega) ?_;refine ldK (hS2 _ _ _ hc2) ?_;refine dV ?_;rw [hn] at hRES;subst hRES;exact ⟨rfl,k02.tr hk3⟩
 have g5:¬ m.op = 10:=g5;rw [if_neg g5] at hRES;subst hRES;exact ⟨rfl,k02⟩
theorem jD' (hS:Sub C w) (hold:∀ b o v,C b o v -> b < w.heap.size) {v:Value} (hv:LkP C B known self v) {l:List Nd} {vl:Value} (hl:SV rNd C l vl) {below:Int} (hb:I64 below) :
  CC 21 #[v,vl,iV below] w (fun e w'=>e = .returned (iV (kJ' B known self l below)) /\ Kp [] w w'):=by
 refine oF Tryz.func21 ?_;have hvv:=hv;obtain ⟨v1,v2,v3,rfl,hO,hE,hP,hk⟩:=hv;have hll:=hl;obtain ⟨al,cl,rfl,hl1,hl2⟩:=hl;obtain ⟨RES,hRES⟩:∃ r,kJ' B known self l below = r:=⟨_,rfl⟩
 rw [hRES];unfold kJ' at hRES;refine cO (args:=[_,_,_]) 30 [.tmp 6] τok Tryz.func21 ?_;refine new fun b3 w1 hb3 h3 hs1 hk1=>?_;have h3:Bk w1.heap b3 [iV B.vars,v1,v2,iV B.nat,v3,iV (known:Int),iV self] 61:=h3;refine ab' (aR' (hS.tr hk1) l al cl hl1) ?_;rintro e w2 ⟨rfl,hk2⟩;have k02:=hk1.tr hk2;refine ac' (fun g=>?_) (fun g=>?_)
 ·have g:bC' l ≠ 0:=g
  rw [if_pos g] at hRES;subst hRES;exact ⟨rfl,k02⟩
 have g:¬ bC' l ≠ 0:=g;rw [if_neg g] at hRES;obtain ⟨hlen,hrow,hok⟩:=iH' (l:=l) (by omega);have hbl:=oy' (C:=C) (tr l) hok al cl (by rw [<- hrow]; exact hl1) (by rw [<- hrow]; exact hl2) (by rw [<- hrow]; exact hlen) w2 (hS.tr k02) (fun b o v h=>KZ (hold b o v h) k02.size) below hb;rw [<- hrow] at hbl;refine ab' hbl ?_;rintro e w3 ⟨rfl,hk3⟩;have k03:=k02.tr hk3;cases hbm:im' (tr l) below with
 | false =>
  rw [if_pos hbm] at hRES;subst hRES;exact ⟨rfl,k03⟩
 | true =>
  rw [if_neg (by rw [hbm]; simp)] at hRES;have hpl:∀ m ∈ l,ah' m = true:=fun m hm=>dp' (tr l) .tm hok.1 m (by rw [<- hrow]; exact hm);refine lp τok (σ:=Nat) (fun i=>[(3,pt b3),(19,.slice al l.length cl),(20,iV (l.length:Int)),(21,iV (i:Int))])
   (fun i w'=>i <= l.length /\ Kp [] w3 w' /\ (if (l.drop i).any (fun m=>!bR' B known self m) = true then (8:Int) else 0) = RES) (fun i=>l.length - i) 0 rfl
   ⟨rfl,rfl,rfl,rfl,trivial⟩ ⟨KV _,Kp.refl _ _,hRES⟩ ?_
  clear hRES
  rintro i w4 ⟨hi,hk4,hres⟩;have k04:=k03.tr hk4;have h34:=h3.kp ((hk2.tr hk3).tr hk4) (by simp);refine ac' (fun g2=>?_) (fun g2=>?_)
  ·have g2:(i:Int) < (l.length:Int):=g2
   obtain ⟨m,hm,hd⟩:=af' (l:=l) (k:=i) (by omega);rw [hd] at hres;obtain ⟨b,o,rfl,hcell⟩:=hl1.at (i:=i) (by omega)
   obtain ⟨cs,⟨rfl,hi1,hi2,hi3⟩,hcc⟩:=hcell i m hm;refine ix i rfl (by omega) ?_;refine ldN [iV m.op,iV m.a,iV m.b] rfl (fun j u hj=>hS.tr k04 _ _ _ (hcc j u hj)) ?_;refine new fun b9 w5 hb9 h9 hs5 hk5=>?_;refine stN (vs:=[iV m.op,iV m.a,iV m.b]) h9 rfl (by simp [Value.oneCell']) fun w6 h9 hs6 hk6=>?_;have k46:=hk5.newSt hb9 hk6;have h9:Bk w6.heap b9 [iV m.op,iV m.a,iV m.b] 45:=h9;have h36:=h34.kp k46 (by simp);refine ldN [iV B.vars,v1,v2,iV B.nat,v3,iV (known:Int),iV self] rfl (bZ h36) ?_;refine ldN [iV m.op,iV m.a,iV m.b] rfl (bZ h9) ?_;refine ab' (tT' (hS.tr (k04.tr k46)) hvv (hpl m (JQ hm)) ⟨hi1,hi2,hi3⟩) ?_;rintro e w7 ⟨rfl,hk7⟩;cases hn:bR' B known self m with
   | false =>
    rw [if_pos (by rw [List.any_cons,hn]; rfl)] at hres;subst hres;exact ⟨rfl,k04.tr (k46.tr hk7)⟩
   | true =>
    rw [List.any_cons,hn,Bool.not_true,Bool.false_or] at hres;refine i6 ?_;exact ⟨i + 1,by omega,rfl,⟨rfl,rfl,rfl,rfl,trivial⟩,by omega,(hk4.tr k46).tr hk7,hres⟩
  ·have g2:¬ (i:Int) < (l.length:Int):=g2
   rw [JY (by omega)] at hres;simp only [List.any_nil,Bool.false_eq_true,if_false] at hres;subst hres;exact ⟨rfl,k04⟩
theorem eb' (hS:Sub C w) (hold:∀ b o v,C b o v -> b < w.heap.size) {v:Value} (hv:LkP C B known self v) {ls:List (List Nd)} {vl:Value} (hl:SV (rSk rNd) C ls vl) (hll:ls.length <= 1000000) {below step:Int} (hb:0 <= below /\ below <= 1000000000) (hs0:0 <= step /\ step <= 1) :
  CC 35 #[v,vl,iV below,iV step] w (fun e w'=>e = .returned (iV (ct' B known self step ls below)) /\ Kp [] w w'):=by
 refine oF Tryz.func35 ?_;have hvv:=hv;obtain ⟨v1,v2,v3,rfl,hO,hE,hP,hk⟩:=hv;obtain ⟨al,cl,rfl,hl1,hl2⟩:=hl;obtain ⟨RES,hRES⟩:∃ r,ct' B known self step ls below = r:=⟨_,rfl⟩
 rw [hRES];refine cO (args:=[_,_,_,_]) 29 [.tmp 8] τok Tryz.func35 ?_;refine new fun b4 w1 hb4 h4 hs1 hk1=>?_;have h4:Bk w1.heap b4 [iV B.vars,v1,v2,iV B.nat,v3,iV (known:Int),iV self] 61:=h4;refine lp τok (σ:=Nat × Int) (fun q=>[(2,iV q.2),(3,iV step),(4,pt b4),(12,.slice al ls.length cl),(13,iV (ls.length:Int)),(14,iV (q.1:Int))])
  (fun q w'=>q.1 <= ls.length /\ below <= q.2 /\ q.2 <= below + q.1 /\ Kp [] w1 w' /\ ct' B known self step (ls.drop q.1) q.2 = RES) (fun q=>ls.length - q.1) (0,below) rfl
  ⟨rfl,rfl,rfl,rfl,rfl,rfl,trivial⟩ ⟨KV _,Int.le_refl _,by simp,Kp.refl _ _,by simpa using hRES⟩ ?_
 clear hRES
 rintro ⟨i,x⟩ w2 ⟨hi,hx1,hx2,hk2,hres⟩;simp only at hi hx1 hx2 hres;have k02:=hk1.tr hk2;have h42:=h4.kp hk2 (by simp);refine ac' (fun g2=>?_) (fun g2=>?_)
 ·have g2:(i:Int) < (ls.length:Int):=g2
  obtain ⟨l,hl,hd⟩:=af' (l:=ls) (k:=i) (by omega);rw [hd] at hres;simp only [ct'] at hres;obtain ⟨b,o,rfl,a',c',hcell,hcap,hsl⟩:=hl1.sk hl;refine ix i rfl (by omega) ?_;refine ld (Cl.cell (hS.tr k02 _ _ _ hcell)) ?_;refine ldN [iV B.vars,v1,v2,iV B.nat,v3,iV (known:Int),iV self] rfl (bZ h42) ?_;refine ab' (jD' (hS.tr k02) (fun b o v h=>KZ (hold b o v h) k02.size) hvv ⟨a',c',rfl,hsl,hcap⟩ (by constructor <;> omega)) ?_;rintro e w3 ⟨rfl,hk3⟩;refine ac' (fun g=>?_) (fun g=>?_)
  ·have g:kJ' B known self l x ≠ 0:=g
   rw [if_pos g] at hres;subst hres;exact ⟨rfl,k02.tr hk3⟩
  have g:¬ kJ' B known self l x ≠ 0:=g;rw [if_neg g] at hres;refine i6 ?_;refine i6 ?_;exact ⟨(i + 1,x + step),by simp only; omega,rfl,⟨rfl,rfl,rfl,rfl,rfl,rfl,trivial⟩,by show i + 1 <= _; omega,by simp only; omega,by simp only; omega,hk2.tr hk3,hres⟩
 ·have g2:¬ (i:Int) < (ls.length:Int):=g2
  rw [JY (by omega)] at hres;simp only [ct'] at hres;subst hres;exact ⟨rfl,k02⟩
theorem pK' (hS:Sub C w) {l:List Nd} {vl:Value} (hl:SV rNd C l vl) (h0:0 < l.length) :
  CC 33 #[vl] w (fun e w'=>e = .returned (iV (eD' l)) /\ Kp [] w w'):=by
 refine oF Tryz.func33 ?_;obtain ⟨al,cl,rfl,hl1,hl2⟩:=hl;obtain ⟨m,hm,_⟩:=af' (l:=l) (k:=0) h0;obtain ⟨b,o,rfl,hcell⟩:=hl1.at (i:=0) h0;obtain ⟨cs,⟨rfl,hi1,hi2,hi3⟩,hcc⟩:=hcell 0 m hm;have hm0:l.getD 0 ⟨0,0,0⟩ = m:=by rw [List.getD_eq_getElem?_getD,hm]; rfl
 refine cO (args:=[_]) 8 [.tmp 2] τok Tryz.func33 ?_;refine ix 0 rfl h0 ?_;refine ld (Cl.cell (hS _ _ _ (hcc 0 _ rfl))) ?_;unfold eD';rw [hm0];refine ac' (fun g=>?_) (fun g=>?_)
 ·have g:m.op ≠ 2:=g
  rw [if_pos g];exact ⟨rfl,Kp.refl _ _⟩
 ·have g:¬ m.op ≠ 2:=g
  rw [if_neg g];exact ⟨rfl,Kp.refl _ _⟩
end
def EnP (C:Mem) (x:EnT) (v:Value):Prop :=
 ∃ w1 w2 w3 w4 w5 w6,v = .agg #[iV x.kind,w1,w2,w3,w4,w5,w6] /\ SV rNd C x.sort w1 /\ SV (rSk rNd) C x.params w2 /\ SV (rSk rNd) C x.indices w3 /\ SV rCt C x.ctors w4 /\ SV rNd C x.type w5 /\ SV rNd C x.body w6
structure Bxs (C:Mem) (w:World) (B:BoT) (known:Nat) (x:EnT) (b2 b3:Nat) (v1 v2 v3 w1 w2 w3 w4 w5 w6:Value):Prop where
 lk:Bk w.heap b2 [iV B.vars,v1,v2,iV B.nat,v3,iV (known:Int),iV (-1)] 61
 en:Bk w.heap b3 [iV x.kind,w1,w2,w3,w4,w5,w6] 55
 o:SV rOr C B.orders v1
 e:SV rEn C B.ents v2
 p:SV rPr C B.prims v3
 k:known <= B.ents.length
 so:SV rNd C x.sort w1
 pa:SV (rSk rNd) C x.params w2
 ix:SV (rSk rNd) C x.indices w3
 ct:SV rCt C x.ctors w4
 lp:x.params.length <= 16
 li:x.indices.length <= 16
def fV':List Int -> Int
 | []=>0
 | a :: r=>bh' a (fV' r)
section
variable {C:Mem} {w:World} {B:BoT} {known:Nat} {x:EnT}
theorem Bxs.kp {b2 b3:Nat} {v1 v2 v3 w1 w2 w3 w4 w5 w6:Value} (h:Bxs C w B known x b2 b3 v1 v2 v3 w1 w2 w3 w4 w5 w6) {w':World} (k:Kp [] w w'):Bxs C w' B known x b2 b3 v1 v2 v3 w1 w2 w3 w4 w5 w6 :=
 ⟨h.lk.kp k (by simp),h.en.kp k (by simp),h.o,h.e,h.p,h.k,h.so,h.pa,h.ix,h.ct,h.lp,h.li⟩
theorem rL' {fs:List (Nat × Array Value)} {rs:List Int} (hlen:rs.length = fs.length) (hfl:fs.length <= 100) {b T:Nat} (hb:Bk w.heap b (fs.map fun q=>.func (.func q.1) #[] q.2) T)
  (hf:∀ (i:Nat) q w',fs[i]? = some q -> Kp [] w w' -> (∀ j,j < i -> rs.getD j 0 = 0) -> di' Tryz.prog q.1 /\ Calls Tryz.prog q.1 (#[] ++ #[] ++ q.2) w' (fun e w2=>e = .returned (iV (rs.getD i 0)) /\ Kp [] w' w2)) :
  CC 30 #[.slice (some ⟨b,0,none⟩) fs.length fs.length] w (fun e w'=>e = .returned (iV (fV' rs)) /\ Kp [] w w'):=by
 refine oF Tryz.func30 ?_;obtain ⟨RES,hRES⟩:∃ r,fV' rs = r:=⟨_,rfl⟩
 rw [hRES];refine cO (args:=[_]) 18 [.tmp 2] τok Tryz.func30 ?_;refine lp τok (σ:=Nat) (fun i=>[(6,.slice (some ⟨b,0,none⟩) fs.length fs.length),(7,iV (fs.length:Int)),(8,iV (i:Int))])
  (fun i w'=>i <= fs.length /\ Kp [] w w' /\ (∀ j,j < i -> rs.getD j 0 = 0) /\ fV' (rs.drop i) = RES) (fun i=>fs.length - i) 0 rfl
  ⟨rfl,rfl,rfl,trivial⟩ ⟨KV _,Kp.refl _ _,fun j hj=>by omega,hRES⟩ ?_
 clear hRES
 rintro i w1 ⟨hi,hk1,hz,hres⟩;refine ac' (fun g=>?_) (fun g=>?_)
 ·have g:(i:Int) < (fs.length:Int):=g
  obtain ⟨q,hq,_⟩:=af' (l:=fs) (k:=i) (by omega);obtain ⟨r,hr,hd⟩:=af' (l:=rs) (k:=i) (by omega);rw [hd] at hres;have hri:rs.getD i 0 = r:=by rw [List.getD_eq_getElem?_getD,hr]; rfl
  have hcell:Cl w1.heap b (0 + i * 1) (.func (.func q.1) #[] q.2):=(hb.kp hk1 (by simp)).cl (by rw [Nat.mul_one,KW,JX,hq]; rfl);refine ix i rfl (by omega) ?_;refine ld (Cl.cell hcell) ?_;have hc:=hf i q w1 hq hk1 hz;rw [hri] at hc;refine ab' hc ?_;rintro e w2 ⟨rfl,hk2⟩;simp only [fV',bh'] at hres;refine ac' (fun g2=>?_) (fun g2=>?_)
  ·have g2:r ≠ 0:=g2
   rw [if_pos g2] at hres;subst hres;exact ⟨rfl,hk1.tr hk2⟩
  ·have g2:¬ r ≠ 0:=g2
   rw [if_neg g2] at hres;refine i6 ?_;exact ⟨i + 1,by omega,rfl,⟨rfl,rfl,rfl,trivial⟩,by omega,hk1.tr hk2,fun j hj=>by
    by_cases h:j = i
    ·subst h
     rw [hri];omega
    ·exact hz j (by omega),hres⟩
 ·have g:¬ (i:Int) < (fs.length:Int):=g
  rw [JY (by omega)] at hres;simp only [fV'] at hres;subst hres;exact ⟨rfl,hk1⟩
theorem rM' (hS:Sub C w) (hold:∀ b o v,C b o v -> b < w.heap.size) {lv ev:Value} (hlv:LkP C B known (-1) lv) (hev:EnP C x ev) (hlp:x.params.length <= 16) (hli:x.indices.length <= 16) :
  CC 38 #[lv,ev] w (fun e w'=>e = .returned (iV (dJ' B known x x.ctors)) /\ Kp [] w w'):=by
 refine oF Tryz.func38 ?_;obtain ⟨RES,hRES⟩:∃ r,dJ' B known x x.ctors = r:=⟨_,rfl⟩
 rw [hRES];obtain ⟨v1,v2,v3,rfl,hO,hE,hP,hk⟩:=hlv;obtain ⟨w1e,w2e,w3e,w4e,w5e,w6e,rfl,hso,hpa,hin,hct,hty,hbo⟩:=hev;obtain ⟨ap,cp,rfl,_,_⟩:=id hpa;obtain ⟨ai,ci,rfl,_,_⟩:=id hin;obtain ⟨ac,cc,rfl,hct1,hct2⟩:=id hct;have hctl:=hct1.1;refine cO (args:=[_,_]) 55 [.tmp 4] τok Tryz.func38 ?_;refine new fun b2 w1 hb2 h2 hs1 hk1=>?_;have h2:Bk w1.heap b2 [iV B.vars,v1,v2,iV B.nat,v3,iV (known:Int),iV (-1)] 61:=h2;refine new fun b3 w2 hb3 h3 hs2 hk2=>?_;have h3:Bk w2.heap b3 [iV x.kind,w1e,.slice ap x.params.length cp,.slice ai x.indices.length ci,.slice ac x.ctors.length cc,w5e,w6e] 55:=h3;have h2:=h2.kp hk2 (by simp);have k02:=hk1.tr hk2;refine lb h2 ?_;refine st (b:=b2) (o:=6) h2 (by simp) rfl fun w3 h2 hs3 hk3=>?_;have h2:Bk w3.heap b2 [iV B.vars,v1,v2,iV B.nat,v3,iV (known:Int),iV (known:Int)] 61:=h2;have k03:Kp [] w w3:=k02.trans hk3 fun y hy hl=>by
  obtain rfl:y = b2:=by simpa using hy
  omega
 have hne:b3 ≠ b2:=by have:=hs1; omega
 have h3:=h3.kp hk3 (by simpa using hne);refine lb h3 ?_;refine lp τok (σ:=Nat) (fun i=>[(2,pt b2),(3,pt b3),(13,.slice ac x.ctors.length cc),(14,iV (x.ctors.length:Int)),(15,iV (i:Int))])
  (fun i w'=>i <= x.ctors.length /\ Kp [] w3 w' /\ dJ' B known x (x.ctors.drop i) = RES) (fun i=>x.ctors.length - i) 0 rfl
  ⟨rfl,rfl,rfl,rfl,rfl,trivial⟩ ⟨KV _,Kp.refl _ _,hRES⟩ ?_
 clear hRES
 rintro i w4 ⟨hi,hk4,hres⟩;have k04:=k03.tr hk4;refine ac' (fun g=>?_) (fun g=>?_)
 ·have g:(i:Int) < (x.ctors.length:Int):=g
  obtain ⟨c,hc,hd⟩:=af' (l:=x.ctors) (k:=i) (by omega);rw [hd] at hres;simp only [dJ'] at hres;obtain ⟨bc,oc,cc',pc,hca⟩:=hct.at hc;obtain ⟨va,vo,hccs,hva,hvo⟩:=jg' hca;injection pc with q1 q2 q3
  subst q1 q3;obtain ⟨aa,ca,rfl,hva1,hva2⟩:=id hva;obtain ⟨ao,co,rfl,hvo1,hvo2⟩:=id hvo;refine ix i rfl (by omega) ?_;refine ldN [.slice aa c.args.length ca,.slice ao c.out.length co] rfl (fun j u hj=>hS.tr k04 _ _ _ (hccs j u hj)) ?_;refine new fun b6 w5 hb6 h6 hs5 hk5=>?_;refine stN (vs:=[.slice aa c.args.length ca,.slice ao c.out.length co]) h6 rfl (by simp [Value.oneCell']) fun w6 h6 hs6 hk6=>?_;have k46:=hk5.newSt hb6 hk6;have k36:=hk4.tr k46;have k06:=k04.tr k46;have h6:Bk w6.heap b6 [.slice aa c.args.length ca,.slice ao c.out.length co] 58:=h6;have h26:=h2.kp k36 (by simp);have h36:=h3.kp k36 (by simp);refine lb h6 ?_;refine ac' (fun g1=>?_) (fun g1=>?_)
  ·have g1:(16:Int) < (c.args.length:Int):=g1
   rw [if_pos (by omega)] at hres;subst hres;exact ⟨rfl,k06⟩
  have g1:¬ (16:Int) < (c.args.length:Int):=g1;rw [if_neg (by omega)] at hres;refine lb h6 ?_;refine lb h36 ?_;refine ac' (fun g2=>?_) (fun g2=>?_)
  ·have g2:(c.out.length:Int) ≠ (x.indices.length:Int):=g2
   rw [if_pos (by omega)] at hres;subst hres;exact ⟨rfl,k06⟩
  have g2:¬ (c.out.length:Int) ≠ (x.indices.length:Int):=g2;rw [if_neg (by omega)] at hres;refine ldN [iV B.vars,v1,v2,iV B.nat,v3,iV (known:Int),iV (known:Int)] rfl (bZ h26) ?_;refine lb h6 ?_;refine lb h36 ?_;refine ab' (eb' (hS.tr k06) (fun b o v h=>KZ (hold b o v h) k06.size) ⟨v1,v2,v3,rfl,hO,hE,hP,hk⟩ hva (by omega) (by omega) (by omega)) ?_;rintro e w7 ⟨rfl,hk7⟩;refine ac' (fun g3=>?_) (fun g3=>?_)
  ·have g3:ct' B known (known:Int) 1 c.args (x.params.length:Int) ≠ 0:=g3
   rw [if_pos g3] at hres;subst hres;exact ⟨rfl,k06.tr hk7⟩
  have g3:¬ ct' B known (known:Int) 1 c.args (x.params.length:Int) ≠ 0:=g3;rw [if_neg g3] at hres;have h27:=h26.kp hk7 (by simp);have h37:=h36.kp hk7 (by simp);have h67:=h6.kp hk7 (by simp);have k07:=k06.tr hk7;refine ldN [iV B.vars,v1,v2,iV B.nat,v3,iV (known:Int),iV (known:Int)] rfl (bZ h27) ?_;refine lb h67 ?_;refine lb h37 ?_;refine lb h67 ?_;refine i6 ?_;refine ab' (eb' (hS.tr k07) (fun b o v h=>KZ (hold b o v h) k07.size) ⟨v1,v2,v3,rfl,hO,hE,hP,hk⟩ hvo (by omega) (by omega) (by omega)) ?_;rintro e w8 ⟨rfl,hk8⟩;refine ac' (fun g4=>?_) (fun g4=>?_)
  ·have g4:ct' B known (known:Int) 0 c.out ((x.params.length:Int) + (c.args.length:Int)) ≠ 0:=g4
   rw [if_pos g4] at hres;subst hres;exact ⟨rfl,k07.tr hk8⟩
  have g4:¬ ct' B known (known:Int) 0 c.out ((x.params.length:Int) + (c.args.length:Int)) ≠ 0:=g4;rw [if_neg g4] at hres;refine i6 ?_;exact ⟨i + 1,by omega,rfl,⟨rfl,rfl,rfl,rfl,rfl,trivial⟩,by omega,(k36.tr hk7).tr hk8,hres⟩
 ·have g:¬ (i:Int) < (x.ctors.length:Int):=g
  rw [JY (by omega)] at hres;simp only [dJ'] at hres;subst hres;exact ⟨rfl,k04⟩
section
variable {b2 b3:Nat} {v1 v2 v3 w1 w2 w3 w4 w5 w6:Value}
theorem pL' (hS:Sub C w) (hold:∀ b o v,C b o v -> b < w.heap.size) (h:Bxs C w B known x b2 b3 v1 v2 v3 w1 w2 w3 w4 w5 w6) :
  CC 31 #[pt b2,pt b3] w (fun e w'=>e = .returned (iV (kJ' B known (-1) x.sort 0)) /\ Kp [] w w'):=by
 refine oF Tryz.func31 ?_;refine cO (args:=[_,_]) 7 [.tmp 2] τok Tryz.func31 ?_;refine ldN [iV B.vars,v1,v2,iV B.nat,v3,iV (known:Int),iV (-1)] rfl (bZ h.lk) ?_;refine ld (Cl.cell (h.en.cl rfl)) ?_;refine ab' (jD' hS hold ⟨v1,v2,v3,rfl,h.o,h.e,h.p,h.k⟩ h.so (by constructor <;> simp)) ?_;rintro e w7 ⟨rfl,hk7⟩;exact ⟨rfl,hk7⟩
theorem pM' (hS:Sub C w) (h:Bxs C w B known x b2 b3 v1 v2 v3 w1 w2 w3 w4 w5 w6) (h0:0 < x.sort.length) :
  CC 32 #[pt b3] w (fun e w'=>e = .returned (iV (eD' x.sort)) /\ Kp [] w w'):=by
 refine oF Tryz.func32 ?_;refine cO (args:=[_]) 5 [.tmp 1] τok Tryz.func32 ?_;refine ld (Cl.cell (h.en.cl rfl)) ?_;refine ab' (pK' hS h.so h0) ?_;rintro e w7 ⟨rfl,hk7⟩;exact ⟨rfl,hk7⟩
theorem pN' (hS:Sub C w) (hold:∀ b o v,C b o v -> b < w.heap.size) (h:Bxs C w B known x b2 b3 v1 v2 v3 w1 w2 w3 w4 w5 w6) :
  CC 34 #[pt b2,pt b3] w (fun e w'=>e = .returned (iV (ct' B known (-1) 1 x.params 0)) /\ Kp [] w w'):=by
 refine oF Tryz.func34 ?_;have:=h.lp;refine cO (args:=[_,_]) 7 [.tmp 2] τok Tryz.func34 ?_;refine ldN [iV B.vars,v1,v2,iV B.nat,v3,iV (known:Int),iV (-1)] rfl (bZ h.lk) ?_;refine ld (Cl.cell (h.en.cl rfl)) ?_;refine ab' (eb' hS hold ⟨v1,v2,v3,rfl,h.o,h.e,h.p,h.k⟩ h.pa (by omega) (by omega) (by omega)) ?_;rintro e w7 ⟨rfl,hk7⟩;exact ⟨rfl,hk7⟩
theorem pO' (hS:Sub C w) (hold:∀ b o v,C b o v -> b < w.heap.size) (h:Bxs C w B known x b2 b3 v1 v2 v3 w1 w2 w3 w4 w5 w6) {b5 T:Nat} (h5:Bk w.heap b5 [iV (x.params.length:Int)] T) :
  CC 36 #[pt b2,pt b3,pt b5] w (fun e w'=>e = .returned (iV (ct' B known (-1) 1 x.indices (x.params.length:Int))) /\ Kp [] w w'):=by
 refine oF Tryz.func36 ?_;have:=h.lp;have:=h.li;refine cO (args:=[_,_,_]) 9 [.tmp 3] τok Tryz.func36 ?_;refine ldN [iV B.vars,v1,v2,iV B.nat,v3,iV (known:Int),iV (-1)] rfl (bZ h.lk) ?_;refine ld (Cl.cell (h.en.cl rfl)) ?_;refine lb h5 ?_;refine ab' (eb' hS hold ⟨v1,v2,v3,rfl,h.o,h.e,h.p,h.k⟩ h.ix (by omega) (by omega) (by omega)) ?_;rintro e w7 ⟨rfl,hk7⟩;exact ⟨rfl,hk7⟩
theorem pP' (hS:Sub C w) (hold:∀ b o v,C b o v -> b < w.heap.size) (h:Bxs C w B known x b2 b3 v1 v2 v3 w1 w2 w3 w4 w5 w6) (hty:SV rNd C x.type w5) (hbo:SV rNd C x.body w6) :
  CC 37 #[pt b2,pt b3] w (fun e w'=>e = .returned (iV (dJ' B known x x.ctors)) /\ Kp [] w w'):=by
 refine oF Tryz.func37 ?_;refine cO (args:=[_,_]) 6 [.tmp 2] τok Tryz.func37 ?_;refine ldN [iV B.vars,v1,v2,iV B.nat,v3,iV (known:Int),iV (-1)] rfl (bZ h.lk) ?_;refine ldN [iV x.kind,w1,w2,w3,w4,w5,w6] rfl (bZ h.en) ?_;refine ab' (rM' hS hold ⟨v1,v2,v3,rfl,h.o,h.e,h.p,h.k⟩ ⟨w1,w2,w3,w4,w5,w6,rfl,h.so,h.pa,h.ix,h.ct,hty,hbo⟩ h.lp h.li) ?_;rintro e w7 ⟨rfl,hk7⟩;exact ⟨rfl,hk7⟩
end
end
section
variable {C:Mem} {w:World} {B:BoT} {known:Nat} {x:EnT}
theorem nF' (hS:Sub C w) (hold:∀ b o v,C b o v -> b < w.heap.size) {lv ev:Value} (hlv:LkP C B known (-1) lv) (hev:EnP C x ev) :
  CC 19 #[lv,ev] w (fun e w'=>e = .returned (iV (dd' B known x)) /\ Kp [] w w'):=by
 refine oF Tryz.func19 ?_;obtain ⟨RES,hRES⟩:∃ r,dd' B known x = r:=⟨_,rfl⟩
 rw [hRES];unfold dd' at hRES;obtain ⟨v1,v2,v3,rfl,hO,hE,hP,hk⟩:=hlv;obtain ⟨w1e,w2e,w3e,w4e,w5e,w6e,rfl,hso,hpa,hin,hct,hty,hbo⟩:=hev;obtain ⟨as_,cs_,rfl,hso1,hso2⟩:=id hso;obtain ⟨ap,cp,rfl,hpa1,hpa2⟩:=id hpa;obtain ⟨ai,ci,rfl,hin1,hin2⟩:=id hin;obtain ⟨ac,cc,rfl,hct1,hct2⟩:=id hct;obtain ⟨at_,ct_,rfl,hty1,hty2⟩:=id hty;obtain ⟨ab,cb,rfl,hbo1,hbo2⟩:=id hbo;have l1:=hso1.1;have l2:=hpa1.1;have l3:=hin1.1;have l4:=hct1.1;have l5:=hty1.1;have l6:=hbo1.1;refine cO (args:=[_,_]) 69 [.tmp 4] τok Tryz.func19 ?_;refine new fun b2 w1 hb2 h2 hs1 hk1=>?_;have h2:Bk w1.heap b2 [iV B.vars,v1,v2,iV B.nat,v3,iV (known:Int),iV (-1)] 61:=h2;refine new fun b3 w2 hb3 h3 hs2 hk2=>?_;have h3:Bk w2.heap b3 [iV x.kind,.slice as_ x.sort.length cs_,.slice ap x.params.length cp,.slice ai x.indices.length ci,.slice ac x.ctors.length cc,.slice at_ x.type.length ct_,.slice ab x.body.length cb] 55:=h3;have h2:=h2.kp hk2 (by simp);have k02:=hk1.tr hk2;refine lb h3 ?_;refine ac' (fun g1=>?_) (fun g1=>?_)
 ·have g1:x.kind = 1:=g1
  rw [if_pos g1] at hRES;refine lb h3 ?_;refine lb h3 ?_;refine i6 ?_;refine ac' (fun g2=>?_) (fun g2=>?_)
  ·have g2:(0:Int) < (x.type.length:Int) + (x.body.length:Int):=g2
   rw [if_pos (by omega)] at hRES;subst hRES;exact ⟨rfl,k02⟩
  have g2:¬ (0:Int) < (x.type.length:Int) + (x.body.length:Int):=g2;rw [if_neg (by omega)] at hRES;have big:∀ {w'},Kp [] w w' -> RES = 5 -> Ending.returned (Go.Wx.one [iV 5]) = .returned (iV RES) /\ Kp [] w w':=fun k h=>by subst h; exact ⟨rfl,k⟩
  refine lb h3 ?_;refine ac' (fun g3=>?_) (fun g3=>?_)
  ·have g3:(16:Int) < (x.params.length:Int):=g3
   rw [if_pos (.inl (by omega))] at hRES;exact big k02 hRES.symm
  have g3:¬ (16:Int) < (x.params.length:Int):=g3;refine lb h3 ?_;refine ac' (fun g4=>?_) (fun g4=>?_)
  ·have g4:(16:Int) < (x.indices.length:Int):=g4
   rw [if_pos (.inr (.inl (by omega)))] at hRES;exact big k02 hRES.symm
  have g4:¬ (16:Int) < (x.indices.length:Int):=g4;refine lb h3 ?_;refine ac' (fun g5=>?_) (fun g5=>?_)
  ·have g5:(16:Int) < (x.ctors.length:Int):=g5
   rw [if_pos (.inr (.inr (by omega)))] at hRES;exact big k02 hRES.symm
  have g5:¬ (16:Int) < (x.ctors.length:Int):=g5;rw [if_neg (by omega)] at hRES;refine lb h3 ?_;refine new fun b5 w3 hb5 h5 hs3 hk3=>?_;refine st (b:=b5) (o:=0) h5 (by simp) rfl fun w4 h5 hs4 hk4=>?_;have h5:Bk w4.heap b5 [iV (x.params.length:Int)] 3:=h5;have k24:=hk3.newSt hb5 hk4;refine fill [.func (.func 31) #[] #[pt b2,pt b3],.func (.func 32) #[] #[pt b3],.func (.func 34) #[] #[pt b2,pt b3],.func (.func 36) #[] #[pt b2,pt b3,pt b5],.func (.func 37) #[] #[pt b2,pt b3]] rfl ?_;refine new fun b6 w5 hb6 h6 hs5 hk5=>?_;have k25:=k24.tr hk5;have k05:=k02.tr k25;have h5:=h5.kp hk5 (by simp);have hS5:=hS.tr k05;have hold5:∀ b o v,C b o v -> b < w5.heap.size:=fun b o v h=>KZ (hold b o v h) k05.size;have hbx:Bxs C w5 B known x b2 b3 v1 v2 v3 _ _ _ _ _ _:=⟨h2.kp k25 (by simp),h3.kp k25 (by simp),hO,hE,hP,hk,hso,hpa,hin,hct,by omega,by omega⟩
  have hfs:=rL' (w:=w5) (fs:=[(31,#[pt b2,pt b3]),(32,#[pt b3]),(34,#[pt b2,pt b3]),(36,#[pt b2,pt b3,pt b5]),(37,#[pt b2,pt b3])])
   (rs:=[kJ' B known (-1) x.sort 0,eD' x.sort,ct' B known (-1) 1 x.params 0,ct' B known (-1) 1 x.indices (x.params.length:Int),dJ' B known x x.ctors]) rfl (by simp) h6 (fun i q w' hq hk' hz=>by
    have hSw:=hS5.tr hk';have holdw:∀ b o v,C b o v -> b < w'.heap.size:=fun b o v h=>KZ (hold5 b o v h) hk'.size;have hbw:=hbx.kp hk'
    match i,hq with
    | 0,hq =>
     obtain rfl:=JB hq;exact pL' hSw holdw hbw
    | 1,hq =>
     obtain rfl:=JB hq;refine pM' hSw hbw ?_;have h0:kJ' B known (-1) x.sort 0 = 0:=hz 0 (by omega);obtain ⟨hr,_⟩:=jz' (by omega) h0;rw [hr];exact ag' _
    | 2,hq =>
     obtain rfl:=JB hq;exact pN' hSw holdw hbw
    | 3,hq =>
     obtain rfl:=JB hq;exact pO' hSw holdw hbw (h5.kp hk' (by simp))
    | 4,hq =>
     obtain rfl:=JB hq;exact pP' hSw holdw hbw hty hbo
    | i + 5,hq=>simp at hq)
  refine ab' hfs ?_;rintro e w6 ⟨rfl,hk6⟩;have:fV' [kJ' B known (-1) x.sort 0,eD' x.sort,ct' B known (-1) 1 x.params 0,ct' B known (-1) 1 x.indices (x.params.length:Int),dJ' B known x x.ctors] = RES:=by
   rw [<- hRES];have e:∀ a,bh' a 0 = a:=fun a=>by unfold bh'; split <;> omega
   simp only [fV',e]
  rw [this];exact ⟨rfl,k05.tr hk6⟩
 have g1:¬ x.kind = 1:=g1;rw [if_neg g1] at hRES;refine ac' (fun g2=>?_) (fun g2=>?_)
 ·have g2:x.kind = 2:=g2
  rw [if_pos g2] at hRES;refine lb h3 ?_;refine lb h3 ?_;refine i6 ?_;refine lb h3 ?_;refine i6 ?_;refine lb h3 ?_;refine i6 ?_;refine ac' (fun g3=>?_) (fun g3=>?_)
  ·have g3:(0:Int) < (x.sort.length:Int) + (x.params.length:Int) + (x.indices.length:Int) + (x.ctors.length:Int):=g3
   rw [if_pos (by omega)] at hRES;subst hRES;exact ⟨rfl,k02⟩
  have g3:¬ (0:Int) < (x.sort.length:Int) + (x.params.length:Int) + (x.indices.length:Int) + (x.ctors.length:Int):=g3;rw [if_neg (by omega)] at hRES;refine ldN [iV B.vars,v1,v2,iV B.nat,v3,iV (known:Int),iV (-1)] rfl (bZ h2) ?_;refine lb h3 ?_;refine lb h3 ?_;refine fill [.slice at_ x.type.length ct_,.slice ab x.body.length cb] rfl ?_;refine new fun b5 w3 hb5 h5 hs3 hk3=>?_;have k03:=k02.tr hk3;have upC:∀ b o v,C b o v -> Cn C w w3 b o v:=fun b o v h=>.inl h;have hrows:SV (rSk rNd) (Cn C w w3) [x.type,x.body] (.slice (some ⟨b5,0,none⟩) 2 2):=by
   have hcell:∀ j u,[Value.slice at_ x.type.length ct_,.slice ab x.body.length cb][j]? = some u -> Cn C w w3 b5 (0 + j) u:=fun j u hj=>by
    refine .inr ⟨by have:=k02.size; omega,?_⟩;rw [KW];exact h5.cu hj
   refine ⟨_,_,rfl,⟨by simp,.inr ⟨b5,0,rfl,fun j l hj=>?_⟩⟩,by simp⟩
   match j,hj with
   | 0,hj =>
    obtain rfl:=JB hj;refine ⟨[_],⟨at_,ct_,rfl,hty2,hty1.mono upC⟩,fun m t hm=>?_⟩
    match m,hm with
    | 0,hm =>
     obtain rfl:=JB hm;exact hcell 0 _ rfl
   | 1,hj =>
    obtain rfl:=JB hj;refine ⟨[_],⟨ab,cb,rfl,hbo2,hbo1.mono upC⟩,fun m t hm=>?_⟩
    match m,hm with
    | 0,hm =>
     obtain rfl:=JB hm;exact hcell 1 _ rfl
  refine ab' (eb' (C:=Cn C w w3) (Cn.sub hS k03) (fun b o v h=>Cn.hold hold k03 h) ⟨v1,v2,v3,rfl,hO.mono upC,hE.mono upC,hP.mono upC,hk⟩ hrows (by simp) (by omega) (by omega)) ?_;rintro e w4 ⟨rfl,hk4⟩;subst hRES;exact ⟨rfl,k03.tr hk4⟩
 have g2:¬ x.kind = 2:=g2;rw [if_neg g2] at hRES;subst hRES;exact ⟨rfl,k02⟩
end
theorem wu':Tryz.prog.stoodInHeld 86 = false:=by kernel_rfl
theorem eqP (a b c d:Int) (w:World):(Op.equal 86 (.agg #[iV a,iV b]) (.agg #[iV c,iV d])).run Tryz.prog w = .ok (decide (a = c /\ b = d)) w:=by
 have hf:Tryz.prog.underlying 86 = some (.struct (Tryz.prog.fieldsOf 86)):=by rw [Program.fieldsOf,Tryz.underlying86]
 have h:=run_equalIn_struct (P:=Tryz.prog) w 9999 86 #[iV a,iV b] #[iV c,iV d] hf wu';show (Op.equalIn 10000 86 _ _).run Tryz.prog w = _;rw [h];simp [Program.fieldsOf,Tryz.underlying86,Op.eqFields,part,go_sem,Tryz.underlying3]
 by_cases h1:a = c <;> by_cases h2:b = d <;> simp [h1,h2,go_sem]
theorem ckP3 (e:Bool) (d:Nat) (n:Int) (w:World):(Instr.checkKey e (d + 1) 3 (iV n)).run Tryz.prog w = .ok () w:=by
 simp only [Instr.checkKey,Sem.run_bind,run_underlying Tryz.underlying3,Result.andThen_ok]
 rfl
theorem ckPn (e:Bool) (d:Nat) (a b:Int) (w:World):(Instr.checkKey e (d + 1 + 1) 86 (.agg #[iV a,iV b])).run Tryz.prog w = .ok () w:=by
 rw [Instr.checkKey];simp only [Sem.run_bind,run_underlying Tryz.underlying86,Result.andThen_ok];rw [<- Array.forIn_toList];simp [part,go_sem,ckP3]
theorem ckP (e:Bool) (a b:Int) (w:World):(Instr.checkKey e 10000 86 (.agg #[iV a,iV b])).run Tryz.prog w = .ok () w:=ckPn e 9998 a b w
theorem mV' (x y:Int) (w:World):∀ (es:List MapEntry) (l:List (Int × Int × Int)) (i:Nat),is' es l ->
  (Instr.findAsking 86 (.agg #[iV x,iV y]) es i).run Tryz.prog w = .ok ((lkI x y l i).map fun p=>(p.1,iV p.2)) w
 | [],[],i,_=>by simp [Instr.findAsking,lkI]
 | e :: es,t :: l,i,h=>by
  simp only [is',List.map_cons,List.cons.injEq,Prod.mk.injEq] at h;obtain ⟨⟨h1,h2⟩,h3⟩:=h;have ih:=mV' x y w es l (i + 1) h3;simp only [Instr.findAsking,Sem.run_bind,h1,eqP,Result.andThen_ok,lkI]
  by_cases hc:x = t.1 /\ y = t.2.1
  ·simp [hc,h2]
  ·simp [hc,ih]
 | [],_ :: _,_,h=>by simp [is'] at h
 | _ :: _,[],_,h=>by simp [is'] at h
theorem sD' (x y:Int) (w:World) (es:List MapEntry) (l:List (Int × Int × Int)) (h:is' es l) :
  (Instr.findKey 86 (.agg #[iV x,iV y]) es).run Tryz.prog w = .ok ((lkI x y l 0).map fun p=>(p.1,iV p.2)) w:=by
 simp only [Instr.findKey,Sem.run_bind,run_underlying Tryz.underlying86,Result.andThen_ok]
 match es,l,h with
 | [],[],_=>simp [Instr.findNow,lkI]
 | e :: es,t :: l,h =>
  simp only [Instr.findNow,Instr.sameNow];exact mV' x y w _ _ 0 h
 | [],_ :: _,h=>simp [is'] at h
 | _ :: _,[],h=>simp [is'] at h
def GrP (h:Array Obj) (b:Nat) (g:Lv.G):Prop:=∃ es clock l,h[b]? = some (.map es clock) /\ is' es.toList l /\ ∀ x y,g x y = (lkI x y l 0).map (·.2)
theorem GrP.lt {h:Array Obj} {b:Nat} {g:Lv.G} (hb:GrP h b g):b < h.size:=by
 obtain ⟨es,clock,l,h1,_⟩:=hb;rcases Nat.lt_or_ge b h.size with h' | h'
 ·exact h'
 ·simp [Array.getElem?_eq_none h'] at h1
theorem GrP.kp {X:List Nat} {w w':World} {b:Nat} {g:Lv.G} (hb:GrP w.heap b g) (h:Kp X w w') (hx:b ∉ X):GrP w'.heap b g:=by
 have hl:=hb.lt;obtain ⟨es,clock,l,h1,h2⟩:=hb;exact ⟨es,clock,l,by rw [h.block b hl hx]; exact h1,h2⟩
theorem de' {w:World} {b:Nat} {g:Lv.G} (hg:GrP w.heap b g) (x y:Int) (ok:Bool) :
  (Instr.lookup 84 (.map (some b)) (.agg #[iV x,iV y]) ok).run Tryz.prog w = .ok (if ok then .tuple #[iV ((g x y).getD 0),.bool (g x y).isSome] else iV ((g x y).getD 0)) w:=by
 obtain ⟨es,clock,l,h1,h2,h3⟩:=hg;have hobj:(getObj b).run Tryz.prog w = .ok (.map es clock) w:=by simp [getObj,Sem.run,h1]
 have hz:(zeroValue 3).run Tryz.prog w = .ok (iV 0) w:=by kernel_rfl
 have hfk:=sD' x y w es.toList l h2;simp only [Instr.lookup,Sem.run_bind,run_underlying Tryz.underlying84,Result.andThen_ok,hobj,ckP,h3];cases hl:lkI x y l 0 with
 | none=>rw [hl] at hfk; simp [hfk,hz]
 | some p=>rw [hl] at hfk; simp [hfk]
theorem ec' {w:World} {b:Nat} {g:Lv.G} (hg:GrP w.heap b g) (x y v:Int) {k:World -> Prop} (hk:∀ w',GrP w'.heap b (Lv.putG g x y v) -> w'.heap.size = w.heap.size -> Kp [b] w w' -> k w') :
  EvRunU Tryz.prog (Instr.mapUpdate 84 (.map (some b)) (.agg #[iV x,iV y]) (iV v)) w k:=by
 have hlt:=hg.lt;obtain ⟨es,clock,l,h1,h2,h3⟩:=hg;have hobj:(getObj b).run Tryz.prog w = .ok (.map es clock) w:=by simp [getObj,Sem.run,h1]
 have hfk:=sD' x y w es.toList l h2;have hset:∀ o,(setObj b o).run Tryz.prog w = .ok () { w with heap:=w.heap.setIfInBounds b o }:=fun o=>by simp [setObj,Sem.run,h1]
 have hkp:∀ o,Kp [b] w { w with heap:=w.heap.setIfInBounds b o }:=fun o=>⟨rfl,rfl,rfl,by simp,fun i _ hx=>by
  have:b ≠ i:=fun e=>hx (by simp [e]);simp [Array.getElem?_setIfInBounds_ne this]⟩
 have hat:∀ o,(w.heap.setIfInBounds b o)[b]? = some o:=fun o=>by simp [hlt]
 have hlen:es.size = l.length:=by
  have:=congrArg List.length h2
  simpa using this
 cases hl:lkI x y l 0 with
 | none =>
  rw [hl] at hfk;refine ux' (w':={ w with heap:=w.heap.setIfInBounds b (.map (es.push { key:=.agg #[iV x,iV y],val:=iV v,born:=clock }) (clock + 1)) }) ?_ (hk _ ?_ (by simp) (hkp _))
  ·simp [Instr.mapUpdate,run_underlying Tryz.underlying84,hobj,ckP,hfk,hset]
  ·refine ⟨_,_,l ++ [(x,y,v)],hat _,?_,fun a c=>?_⟩
   ·simp only [is',Array.toList_push,List.map_append,h2,List.map_cons,List.map_nil]
    rw [h2]
   ·rw [jd' x y v l 0 hl a c,<- h3]
    rfl
 | some p =>
  rw [hl] at hfk;obtain ⟨_,t,ht,e1,e2,e3⟩:=my' x y l 0 p hl;rw [Nat.sub_zero] at ht;have hp:p.1 < l.length:=(List.getElem?_eq_some_iff.1 ht).1;have hkey:((es[p.1]?).map (·.key)).getD (.agg #[iV x,iV y]) = .agg #[iV x,iV y]:=by
   have:=congrArg (fun l=>l[p.1]?) h2;simp only [JX,ht,Option.map_some,Array.getElem?_toList] at this;cases hes:es[p.1]? with
   | none=>simp
   | some e =>
    rw [hes] at this;simp only [Option.map_some,Option.some.injEq,Prod.mk.injEq] at this;simp [this.1,e1,e2]
  refine ux' (w':={ w with heap:=w.heap.setIfInBounds b (.map (es.modify p.1 fun e=>{ e with key:=.agg #[iV x,iV y],val:=iV v }) clock) }) ?_ (hk _ ?_ (by simp) (hkp _))
  ·have hst:(Instr.keyThatStays (.agg #[iV x,iV y]) (.agg #[iV x,iV y])).run Tryz.prog w = .ok (.agg #[iV x,iV y]) w:=by
    unfold Instr.keyThatStays;rw [show (10000:Nat) = 9999 + 1 from rfl,uV'];simp
   simp only [Instr.mapUpdate,Sem.run_bind,run_underlying Tryz.underlying84,Result.andThen_ok,hobj,ckP];rw [hfk];simp only [Option.map_some,Result.andThen_ok,Sem.run_bind];rw [hkey,hst];simp [hset]
  ·refine ⟨_,_,l.set p.1 (x,y,v),hat _,?_,fun a c=>?_⟩
   ·unfold is'
    apply List.ext_getElem?;intro i;have:=congrArg (fun l=>l[i]?) h2;simp only [JX,Array.getElem?_toList] at this ⊢;simp only [Array.getElem?_modify,List.getElem?_set]
    by_cases hi:p.1 = i
    ·subst hi
     have hes:p.1 < es.size:=by omega
     simp [hp,hes]
    ·simp [hi,this]
   ·have:=lt' x y v l 0 p hl a c
    rw [Nat.sub_zero] at this;rw [this,<- h3]
    rfl
theorem tU' {w:World} {k:Value -> World -> Prop} (hk:∀ b w',b = w.heap.size -> GrP w'.heap b (fun _ _=>none) -> w'.heap.size = b + 1 -> Kp [] w w' -> k (.map (some b)) w'):EvRun Tryz.prog (Instr.makeMap 84 none) w k:=by
 refine run (w':=w.alloc (.map #[] 0)) (by simp [Instr.makeMap]) (hk _ _ rfl ⟨#[],0,[],?_,rfl,fun _ _=>rfl⟩ (by simp) (Kp.alloc _ _));show (w.heap.push _)[_]? = _;simp
theorem pQ' {C:Mem} {ls:List (List Nd)} {v:Value} (h:SV (rSk rNd) C ls v) {i:Nat} {l:List Nd} (hi:ls[i]? = some l):∃ b o c,v = .slice (some ⟨b,o,none⟩) ls.length c /\ ∃ u,C b (o + i * 1) u /\ SV rNd C l u:=by
 obtain ⟨a,c,rfl,h1,h2⟩:=h;obtain ⟨b,o,rfl,a',c',hcell,hcap,hsl⟩:=h1.sk hi;exact ⟨b,o,c,rfl,_,hcell,a',c',rfl,hsl,hcap⟩
theorem rN' {C:Mem} {l:List Nd} {v:Value} (h:SV rNd C l v) {i:Nat} {m:Nd} (hi:l[i]? = some m):∃ b o c,v = .slice (some ⟨b,o,none⟩) l.length c /\ (I64 m.op /\ I64 m.a /\ I64 m.b) /\ ∀ j u,[iV m.op,iV m.a,iV m.b][j]? = some u -> C b (o + i * 3 + j) u:=by
 obtain ⟨a,c,rfl,h1,h2⟩:=h;obtain ⟨b,o,rfl,hcell⟩:=h1.at (i:=i) (ai' hi)
 obtain ⟨cs,⟨rfl,hi1⟩,hcc⟩:=hcell i m hi;exact ⟨b,o,c,rfl,hi1,hcc⟩
section
variable {C:Mem} {w:World} {B:BoT}
theorem nG' (hS:Sub C w) {vb:Value} (hvb:BoV C B vb) (a:Int) :
  CC 39 #[vb,iV a] w (fun e w'=>e = .returned (.bool (vw' B a)) /\ Kp [] w w'):=by
 refine oF Tryz.func39 ?_;obtain ⟨RES,hRES⟩:∃ r,vw' B a = r:=⟨_,rfl⟩
 rw [hRES];unfold vw' at hRES;obtain ⟨v1,v2,v3,rfl,hO,hE,hP⟩:=hvb;obtain ⟨ae,ce,rfl,_,_⟩:=id hE;have no:∀ {w'},Kp [] w w' -> RES = false -> Ending.returned (Go.Wx.one [.bool false]) = .returned (.bool RES) /\ Kp [] w w':=fun k h=>by subst h; exact ⟨rfl,k⟩
 refine cO (args:=[_,_]) 104 [.tmp 4] τok Tryz.func39 ?_;refine new fun b2 w1 hb2 h2 hs1 hk1=>?_;have h2:Bk w1.heap b2 [iV B.vars,v1,.slice ae B.ents.length ce,iV B.nat,v3] 26:=h2;refine ac' (fun g1=>?_) (fun g1=>?_)
 ·have g1:a < 0:=g1
  rw [if_pos (.inl g1)] at hRES;exact no hk1 hRES.symm
 have g1:¬ a < 0:=g1;refine lb h2 ?_;refine ac' (fun g2=>?_) (fun g2=>?_)
 ·have g2:(B.ents.length:Int) <= a:=g2
  rw [if_pos (.inr (.inl g2))] at hRES;exact no hk1 hRES.symm
 have g2:¬ (B.ents.length:Int) <= a:=g2;obtain ⟨n,rfl⟩:∃ n:Nat,a = (n:Int):=⟨a.toNat,by omega⟩
 obtain ⟨x,hx,_⟩:=af' (l:=B.ents) (k:=n) (by omega);rw [fB' hx] at hRES;obtain ⟨be,oe,ce',pe,hat⟩:=hE.at hx;obtain ⟨w1e,w2e,w3e,w4e,w5e,w6e,hcs,hki,hso,hpa,hin,hct,hty,hbo⟩:=eB' hat;injection pe with q1 q2 q3
 subst q1 q3;obtain ⟨as_,cs_,rfl,hso1,hso2⟩:=id hso;obtain ⟨ap,cp,rfl,hpa1,hpa2⟩:=id hpa;obtain ⟨ai,ci,rfl,hin1,hin2⟩:=id hin;obtain ⟨ac,cc,rfl,hct1,hct2⟩:=id hct;have l2:=hpa1.1;have l3:=hin1.1;have hone:∀ v ∈ [iV x.kind,.slice as_ x.sort.length cs_,.slice ap x.params.length cp,.slice ai x.indices.length ci,.slice ac x.ctors.length cc,w5e,w6e],v.oneCell' = true:=fun v hv=>by
  simp at hv;rcases hv with rfl | rfl | rfl | rfl | rfl | rfl | rfl
  ·rfl
  ·rfl
  ·rfl
  ·rfl
  ·rfl
  ·exact hty.one
  ·exact hbo.one
 refine lb h2 ?_;refine ix n rfl (by omega) ?_;refine ld (Cl.cell ((hS.tr hk1) _ _ _ (hcs 0 _ rfl))) ?_;refine ac' (fun g3=>?_) (fun g3=>?_)
 ·have g3:x.kind ≠ 1:=g3
  rw [if_pos (.inr (.inr g3))] at hRES;exact no hk1 hRES.symm
 have g3:¬ x.kind ≠ 1:=g3;rw [if_neg (by omega)] at hRES;refine lb h2 ?_;refine ix n rfl (by omega) ?_;refine ldN _ rfl (fun j u hj=>(hS.tr hk1) _ _ _ (hcs j u hj)) ?_;refine new fun b5 w2 hb5 h5 hs2 hk2=>?_;refine stN (vs:=[iV x.kind,.slice as_ x.sort.length cs_,.slice ap x.params.length cp,.slice ai x.indices.length ci,.slice ac x.ctors.length cc,w5e,w6e]) h5 rfl hone fun w3 h5 hs3 hk3=>?_;have k03:=hk1.tr (hk2.newSt hb5 hk3);have h5:Bk w3.heap b5 [iV x.kind,.slice as_ x.sort.length cs_,.slice ap x.params.length cp,.slice ai x.indices.length ci,.slice ac x.ctors.length cc,w5e,w6e] 55:=h5;have hS3:=hS.tr k03;refine lb h5 ?_;refine ac' (fun g4=>?_) (fun g4=>?_)
 ·have g4:(x.sort.length:Int) ≠ 2:=g4
  rw [if_pos (.inl (by omega))] at hRES;exact no k03 hRES.symm
 have g4:¬ (x.sort.length:Int) ≠ 2:=g4;obtain ⟨s0,hs0,_⟩:=af' (l:=x.sort) (k:=0) (by omega);obtain ⟨s1,hs1',_⟩:=af' (l:=x.sort) (k:=1) (by omega);have e0:x.sort.getD 0 ⟨0,0,0⟩ = s0:=by rw [List.getD_eq_getElem?_getD,hs0]; rfl
 have e1:x.sort.getD 1 ⟨0,0,0⟩ = s1:=by rw [List.getD_eq_getElem?_getD,hs1']; rfl
 rw [e0,e1] at hRES;obtain ⟨bs,os,cs',ps,_,hsc0⟩:=rN' hso hs0;obtain ⟨bs',os',cs'',ps',_,hsc1⟩:=rN' hso hs1';injection ps with q1 q2 q3
 injection ps' with r1 r2 r3
 rw [q1] at r1;injection r1 with r1
 injection r1 with r1 r4
 subst q1 q3 r1 r4;refine lb h5 ?_;refine ix 0 rfl (by omega) ?_;refine ld (Cl.cell (hS3 _ _ _ (hsc0 1 _ rfl))) ?_;refine ac' (fun g5=>?_) (fun g5=>?_)
 ·have g5:s0.a ≠ 1:=g5
  rw [if_pos (.inr (.inl g5))] at hRES;exact no k03 hRES.symm
 have g5:¬ s0.a ≠ 1:=g5;refine lb h5 ?_;refine ix 1 rfl (by omega) ?_;refine ldN [iV s1.op,iV s1.a,iV s1.b] rfl (fun j u hj=>hS3 _ _ _ (hsc1 j u hj)) ?_;refine run (gZ' _ _ s1 ⟨3,0,0⟩ w3) ?_;refine iO' (fun g6=>?_) (fun g6=>?_);rotate_left
 ·have g6:¬ s1 = ⟨3,0,0⟩:=g6
  rw [if_pos (.inr (.inr (.inl g6)))] at hRES;exact no k03 hRES.symm
 have g6:s1 = ⟨3,0,0⟩:=g6;refine lb h5 ?_;refine lb h5 ?_;refine i6 ?_;refine ac' (fun g7=>?_) (fun g7=>?_)
 ·have g7:(0:Int) < (x.params.length:Int) + (x.indices.length:Int):=g7
  rw [if_pos (.inr (.inr (.inr (.inl (by omega)))))] at hRES;exact no k03 hRES.symm
 have g7:¬ (0:Int) < (x.params.length:Int) + (x.indices.length:Int):=g7;refine lb h5 ?_;refine ac' (fun g8=>?_) (fun g8=>?_)
 ·have g8:(x.ctors.length:Int) ≠ 2:=g8
  rw [if_pos (.inr (.inr (.inr (.inr (by omega)))))] at hRES;exact no k03 hRES.symm
 have g8:¬ (x.ctors.length:Int) ≠ 2:=g8;rw [if_neg (by
  rintro (h | h | h | h | h)
  ·omega
  ·exact g5 h
  ·exact h g6
  ·omega
  ·omega)] at hRES
 obtain ⟨c0,hc0,_⟩:=af' (l:=x.ctors) (k:=0) (by omega);obtain ⟨c1,hc1,_⟩:=af' (l:=x.ctors) (k:=1) (by omega);have d0:x.ctors.getD 0 default = c0:=by rw [List.getD_eq_getElem?_getD,hc0]; rfl
 have d1:x.ctors.getD 1 default = c1:=by rw [List.getD_eq_getElem?_getD,hc1]; rfl
 rw [d0,d1] at hRES;obtain ⟨bc,oc,cc',pc,hca⟩:=hct.at hc0;obtain ⟨bc',oc',cc'',pc',hca'⟩:=hct.at hc1;obtain ⟨va,vo,hccs,hva,hvo⟩:=jg' hca;obtain ⟨va',vo',hccs',hva',hvo'⟩:=jg' hca';injection pc with q1 q2 q3
 injection pc' with r1 r2 r3
 rw [q1] at r1;injection r1 with r1
 injection r1 with r1 r4
 subst q1 q3 r1 r4;obtain ⟨aa,ca,rfl,_,_⟩:=id hva;obtain ⟨ao,co,rfl,_,_⟩:=id hvo;obtain ⟨aa',ca',rfl,_,_⟩:=id hva';obtain ⟨ao',co',rfl,_,_⟩:=id hvo';refine as' τok (fun z=>Kp [] w3 z) ?_;refine rV τok (rg 0 8) 4 (mR 12 8) (kQd w3) ?_;refine lk h5 ?_;refine ix 0 rfl (by omega) ?_;refine dP' [.slice aa c0.args.length ca,.slice ao c0.out.length co] rfl (fun j u hj=>hS3 _ _ _ (hccs j u hj)) ?_;refine lk h5 ?_;refine ix 1 rfl (by omega) ?_;refine dP' [.slice aa' c1.args.length ca',.slice ao' c1.out.length co'] rfl (fun j u hj=>hS3 _ _ _ (hccs' j u hj)) ?_;have o1:∀ v ∈ [Value.slice aa c0.args.length ca,.slice ao c0.out.length co],v.oneCell' = true:=fun v hv=>by simp at hv; rcases hv with rfl | rfl <;> rfl
 have o2:∀ v ∈ [Value.slice aa' c1.args.length ca',.slice ao' c1.out.length co'],v.oneCell' = true:=fun v hv=>by simp at hv; rcases hv with rfl | rfl <;> rfl
 refine gd' τok 8 9 3 (mR 12 9) (mB 12 [8,10,11]) rfl rfl rfl rfl rfl (by kernel_rfl) ?_ ?_
 ·refine new fun b6 w5 hb6 h6 hs5 hk5=>?_
  have hk5:Kp [] w3 w5:=hk5.rd;have lb6:w3.heap.size <= b6:=by
   have:b6 = w3.heap.size:=hb6;omega
  refine ⟨.inl hk5,?_⟩;refine nV τok 9 2 (mR 12 10) ?_;refine new fun b7 w6 hb7 h7 hs6 hk6=>?_;have k36:=hk5.tr hk6;have n67:b6 ≠ b7:=by have:=h6.lt; omega
  have lb7:w3.heap.size <= b7:=by have:=hk5.size; omega
  refine ⟨.inl k36,?_⟩;refine nV τok 10 1 (mR 12 11) ?_;refine stN (vs:=[.slice aa c0.args.length ca,.slice ao c0.out.length co]) (h6.kp hk6 (by simp)) rfl o1 fun w7 h6' hs7 hk7=>?_;have k37:Kp [] w3 w7:=k36.trans hk7 fun y hy hl=>by simp at hy; omega
  refine ⟨.inl k37,?_⟩;refine nV τok 11 0 (mR 12 12) ?_;refine stN (vs:=[.slice aa' c1.args.length ca',.slice ao' c1.out.length co']) (h7.kp hk7 (by simpa using Ne.symm n67)) rfl o2 fun w8 h7' hs8 hk8=>?_;refine ⟨.inr (by kernel_rfl),?_⟩;refine dV ?_;have k38:Kp [] w3 w8:=(k37.trans hk8 fun y hy hl=>by simp at hy; omega)
  have k08:=k03.tr k38;have h68:Bk w8.heap b6 [.slice aa c0.args.length ca,.slice ao c0.out.length co] 58:=(h6'.kp hk8 (by simpa using n67))
  have h78:Bk w8.heap b7 [.slice aa' c1.args.length ca',.slice ao' c1.out.length co'] 58:=h7';refine lb h68 ?_;refine ac' (fun y1=>?_) (fun y1=>?_);rotate_left
  ·have y1:¬ (c0.args.length:Int) = 0:=y1
   rw [decide_eq_false (by omega)] at hRES;exact no k08 (by rw [<- hRES]; rfl)
  have y1:(c0.args.length:Int) = 0:=y1;rw [decide_eq_true (by omega),Bool.true_and] at hRES;refine lb h78 ?_;refine ac' (fun y2=>?_) (fun y2=>?_);rotate_left
  ·have y2:¬ (c1.args.length:Int) = 1:=y2
   rw [decide_eq_false (by omega)] at hRES;exact no k08 (by rw [<- hRES]; rfl)
  have y2:(c1.args.length:Int) = 1:=y2;rw [decide_eq_true (by omega),Bool.true_and] at hRES;obtain ⟨r0,hr0,_⟩:=af' (l:=c1.args) (k:=0) (by omega);have hr0':c1.args.getD 0 [] = r0:=by rw [List.getD_eq_getElem?_getD,hr0]; rfl
  rw [hr0'] at hRES;obtain ⟨bx,ox,cx,px,ux,hux,hsx⟩:=pQ' hva' hr0;injection px with q1 q2 q3
  subst q1 q3;obtain ⟨ax,cxx,rfl,_,_⟩:=id hsx;refine lb h78 ?_;refine ix 0 rfl (by omega) ?_;refine ld (Cl.cell ((hS.tr k08) _ _ _ hux)) ?_;refine ac' (fun y3=>?_) (fun y3=>?_);rotate_left
  ·have y3:¬ (r0.length:Int) = 1:=y3
   rw [decide_eq_false (by omega)] at hRES;exact no k08 (by rw [<- hRES]; rfl)
  have y3:(r0.length:Int) = 1:=y3;rw [decide_eq_true (by omega),Bool.true_and] at hRES;obtain ⟨m0,hm0,_⟩:=af' (l:=r0) (k:=0) (by omega);have hm0':r0.getD 0 ⟨0,0,0⟩ = m0:=by rw [List.getD_eq_getElem?_getD,hm0]; rfl
  rw [hm0'] at hRES;obtain ⟨bm,om,cm,pm,_,hmc⟩:=rN' hsx hm0;injection pm with q1 q2 q3
  subst q1 q3;refine lb h78 ?_;refine ix 0 rfl (by omega) ?_;refine ld (Cl.cell ((hS.tr k08) _ _ _ hux)) ?_;refine ix 0 rfl (by omega) ?_;refine ldN [iV m0.op,iV m0.a,iV m0.b] rfl (fun j u hj=>(hS.tr k08) _ _ _ (hmc j u hj)) ?_;refine run (gq' _ _ m0 ⟨9,(n:Int),0⟩ w8) ?_;subst hRES;exact ⟨rfl,k08⟩
 ·refine new fun b7 w5 hb7 h7 hs5 hk5=>?_
  have hk5:Kp [] w3 w5:=hk5.rd;have lb7:w3.heap.size <= b7:=by
   have:b7 = w3.heap.size:=hb7;omega
  refine ⟨.inl hk5,?_⟩;refine nV τok 8 2 (mR 12 10) ?_;refine new fun b6 w6 hb6 h6 hs6 hk6=>?_;have k36:=hk5.tr hk6;have n67:b6 ≠ b7:=by have:=h7.lt; omega
  have lb6:w3.heap.size <= b6:=by have:=hk5.size; omega
  refine ⟨.inl k36,?_⟩;refine nV τok 10 1 (mR 12 11) ?_;refine stN (vs:=[.slice aa c0.args.length ca,.slice ao c0.out.length co]) h6 rfl o1 fun w7 h6' hs7 hk7=>?_;have k37:Kp [] w3 w7:=k36.trans hk7 fun y hy hl=>by simp at hy; omega
  refine ⟨.inl k37,?_⟩;refine nV τok 11 0 (mR 12 12) ?_;refine stN (vs:=[.slice aa' c1.args.length ca',.slice ao' c1.out.length co']) ((h7.kp hk6 (by simp)).kp hk7 (by simpa using Ne.symm n67)) rfl o2 fun w8 h7' hs8 hk8=>?_;refine ⟨.inr (by kernel_rfl),?_⟩;refine dV ?_;have k38:Kp [] w3 w8:=(k37.trans hk8 fun y hy hl=>by simp at hy; omega)
  have k08:=k03.tr k38;have h68:Bk w8.heap b6 [.slice aa c0.args.length ca,.slice ao c0.out.length co] 58:=(h6'.kp hk8 (by simpa using n67))
  have h78:Bk w8.heap b7 [.slice aa' c1.args.length ca',.slice ao' c1.out.length co'] 58:=h7';refine lb h68 ?_;refine ac' (fun y1=>?_) (fun y1=>?_);rotate_left
  ·have y1:¬ (c0.args.length:Int) = 0:=y1
   rw [decide_eq_false (by omega)] at hRES;exact no k08 (by rw [<- hRES]; rfl)
  have y1:(c0.args.length:Int) = 0:=y1;rw [decide_eq_true (by omega),Bool.true_and] at hRES;refine lb h78 ?_;refine ac' (fun y2=>?_) (fun y2=>?_);rotate_left
  ·have y2:¬ (c1.args.length:Int) = 1:=y2
   rw [decide_eq_false (by omega)] at hRES;exact no k08 (by rw [<- hRES]; rfl)
  have y2:(c1.args.length:Int) = 1:=y2;rw [decide_eq_true (by omega),Bool.true_and] at hRES;obtain ⟨r0,hr0,_⟩:=af' (l:=c1.args) (k:=0) (by omega);have hr0':c1.args.getD 0 [] = r0:=by rw [List.getD_eq_getElem?_getD,hr0]; rfl
  rw [hr0'] at hRES;obtain ⟨bx,ox,cx,px,ux,hux,hsx⟩:=pQ' hva' hr0;injection px with q1 q2 q3
  subst q1 q3;obtain ⟨ax,cxx,rfl,_,_⟩:=id hsx;refine lb h78 ?_;refine ix 0 rfl (by omega) ?_;refine ld (Cl.cell ((hS.tr k08) _ _ _ hux)) ?_;refine ac' (fun y3=>?_) (fun y3=>?_);rotate_left
  ·have y3:¬ (r0.length:Int) = 1:=y3
   rw [decide_eq_false (by omega)] at hRES;exact no k08 (by rw [<- hRES]; rfl)
  have y3:(r0.length:Int) = 1:=y3;rw [decide_eq_true (by omega),Bool.true_and] at hRES;obtain ⟨m0,hm0,_⟩:=af' (l:=r0) (k:=0) (by omega);have hm0':r0.getD 0 ⟨0,0,0⟩ = m0:=by rw [List.getD_eq_getElem?_getD,hm0]; rfl
  rw [hm0'] at hRES;obtain ⟨bm,om,cm,pm,_,hmc⟩:=rN' hsx hm0;injection pm with q1 q2 q3
  subst q1 q3;refine lb h78 ?_;refine ix 0 rfl (by omega) ?_;refine ld (Cl.cell ((hS.tr k08) _ _ _ hux)) ?_;refine ix 0 rfl (by omega) ?_;refine ldN [iV m0.op,iV m0.a,iV m0.b] rfl (fun j u hj=>(hS.tr k08) _ _ _ (hmc j u hj)) ?_;refine run (gq' _ _ m0 ⟨9,(n:Int),0⟩ w8) ?_;subst hRES;exact ⟨rfl,k08⟩
end
end Go.Proofs.YtpealcfjbcpoiaaGreat
