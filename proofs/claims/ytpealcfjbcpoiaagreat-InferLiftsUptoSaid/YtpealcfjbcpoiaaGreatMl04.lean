import Derived.Test.YtpealcfjbcpoiaaGreatMl03
set_option linter.unusedVariables false
set_option linter.unusedSimpArgs false
namespace Go.Proofs.YtpealcfjbcpoiaaGreat
open Go.Wx Cd Tm
def opI:Option Nat -> Int
 | some n=>n
 | none=>-1
section
variable {C:Mem}
theorem om' {w:World} (hS:Sub C w) (t:List Nd) (a:Option Addr) (cap:Nat) (hl:Sl rNd C a t) (at0 c:Nat) (ha:at0 <= 2199023255552) (hc:c <= 1000) :
  CC 43 #[.slice a t.length cap,iV (at0:Int),iV (c:Int)] w (fun e w'=>e = .returned (iV (opI (atS t c (-1) at0))) /\ Kp [] w w'):=by
 refine oF Tryz.func43 ?_;have hlen:=hl.1;obtain ⟨RES,hRES⟩:∃ r,opI (atS t c (-1) at0) = r:=⟨_,rfl⟩
 rw [hRES];refine cO (args:=[_,_,_]) 49 [.tmp 6] τok Tryz.func43 ?_;refine lp τok (σ:=Nat × Int × Nat) (fun q=>[(0,.slice a t.length cap),(1,iV (q.2.2:Int)),(7,iV q.2.1),(8,iV (c:Int)),(9,iV (q.1:Int))]) (fun q w'=>q.1 <= c /\ q.2.2 <= max at0 t.length /\ opI (atS t (c - q.1) q.2.1 q.2.2) = RES /\ Kp [] w w') (fun q=>c - q.1) (0,-1,at0) rfl
  ⟨rfl,rfl,rfl,rfl,rfl,trivial⟩ ⟨KV _,Nat.le_max_left _ _,hRES,Kp.refl _ _⟩ ?_
 rintro ⟨i,last,p⟩ w1 ⟨hi,hp,hr,hk⟩;simp only at hi hp hr;have hS1:=hS.tr hk;refine ac' (fun g=>?_) (fun g=>?_)
 ·have g:(i:Int) < c:=g
  obtain ⟨k,hk'⟩:∃ k,c - i = k + 1:=⟨c - i - 1,by omega⟩
  rw [hk'] at hr;simp only [atS] at hr;refine ac' (fun g1=>?_) (fun g1=>?_)
  ·have g1:(p:Int) ≥ t.length:=g1
   rw [List.getElem?_eq_none (by omega)] at hr;exact ⟨by rw [<- hr]; rfl,hk⟩
  have g1:¬ (p:Int) ≥ t.length:=g1;obtain ⟨n,hn,_⟩:=af' (l:=t) (k:=p) (by omega);obtain ⟨b,o,rfl,i1,i2,i3,hcells⟩:=ft' hl hn;rw [hn] at hr;simp only at hr;refine ix p rfl (by omega) ?_;refine ld (hS1 _ _ _ (hcells 0 _ rfl)).cell ?_;refine ac' (fun g2=>?_) (fun g2=>?_)
  ·have g2:n.op ≠ 3:=g2
   rw [if_neg fun q=>g2 q.1] at hr;exact ⟨by rw [<- hr]; rfl,hk⟩
  have g2:n.op = 3:=by simpa using g2
  refine ix p rfl (by omega) ?_;refine ldN [iV n.op,iV n.a,iV n.b] rfl (fun j v hj=>hS1 _ _ _ (hcells j v hj)) ?_;refine ab' (gG' n w1) ?_;rintro e w2 ⟨rfl,hk2⟩;have hS2:=hS1.tr hk2;refine br (fun g3=>?_) (fun g3=>?_)
  ·have g3:¬ ah' n = true:=by simpa using g3
   rw [if_neg fun q=>g3 q.2.1] at hr;exact ⟨by rw [<- hr]; rfl,hk.tr hk2⟩
  have g3:ah' n = true:=by simpa using g3
  refine ix p rfl (by omega) ?_;refine ld (hS2 _ _ _ (hcells 1 _ rfl)).cell ?_;refine ac' (fun g4=>?_) (fun g4=>?_)
  ·have g4:n.a <= last:=g4
   rw [if_neg fun q=>by have:=q.2.2; omega] at hr;exact ⟨by rw [<- hr]; rfl,hk.tr hk2⟩
  have g4:¬ n.a <= last:=g4;rw [if_pos ⟨g2,g3,by omega⟩] at hr;refine ix p rfl (by omega) ?_;refine ld (hS2 _ _ _ (hcells 1 _ rfl)).cell ?_;refine i6 ?_;refine i6 ?_;refine ⟨(i + 1,n.a,p + 1),by simp only; omega,rfl,⟨rfl,rfl,rfl,rfl,rfl,trivial⟩,by show i + 1 <= c; omega,by show p + 1 <= max at0 t.length; omega,?_,hk.tr hk2⟩;show opI (atS t (c - (i + 1)) n.a (p + 1)) = RES;rw [show c - (i + 1) = k by omega];exact hr
 ·have g:¬ (i:Int) < c:=g
  rw [show c - i = 0 by omega] at hr;exact ⟨by rw [<- hr]; rfl,hk⟩
def qF' (t:List Nd) (i:Int):Int:=if i < 0 then -1 else opI (endS t .tm i.toNat)
theorem cR' (t:List Nd) (p:Nat):qF' t (p:Int) = opI (endS t .tm p):=by
 unfold qF';rw [if_neg (by omega)]
 rfl
theorem tc' (t:List Nd) (o:Option Nat):qF' t (opI o) = opI (match o with
  | none=>none
  | some a'=>endS t .tm a'):=by
 cases o with
 | none=>rfl
 | some n=>exact cR' t n
theorem dj' {n:Nd} (h:ah' n = true):0 <= ar' n /\ ar' n <= 18:=by
 unfold ar';split
 ·omega
 split
 ·omega
 split
 ·rename_i h11
  have:inR n.b 0 16 = true:=by simp [ah',h11] at h; exact h.2
  have:=aF'.1 this;omega
 split
 ·rename_i h12
  have:inR n.b 1 4 = true:=by simp [ah',h12] at h; exact h.1
  have:=aF'.1 this;omega
 omega
theorem iU' (t:List Nd) (a:Option Addr) (cap:Nat) (hl:Sl rNd C a t):∀ (N:Nat) (w:World),Sub C w -> ∀ (i0:Int),-1 <= i0 -> i0 <= 2199023255552 -> (0 <= i0 -> t.length - i0.toNat <= N) ->
  CC 22 #[.slice a t.length cap,iV i0] w (fun e w'=>e = .returned (iV (qF' t i0)) /\ Kp [] w w'):=by
 intro N
 induction N using Nat.strongRecOn with
 | _ N ih =>
 intro w hS i0 hlo hhi hN;refine oF Tryz.func22 ?_;have hlen:=hl.1;refine cO (args:=[_,_]) 90 [.tmp 4] τok Tryz.func22 ?_;refine ac' (fun g0=>?_) (fun g0=>?_)
 ·have g0:i0 < 0:=g0
  exact ⟨by unfold qF'; rw [if_pos g0]; rfl,Kp.refl _ _⟩
 have g0:¬ i0 < 0:=g0;obtain ⟨at0,rfl⟩:∃ n:Nat,i0 = n:=⟨i0.toNat,by omega⟩
 have hN:t.length - at0 <= N:=hN (by omega);rw [cR'];obtain ⟨RES,hRES⟩:∃ r,opI (endS t .tm at0) = r:=⟨_,rfl⟩
 rw [hRES];refine ac' (fun g1=>?_) (fun g1=>?_)
 ·have g1:(at0:Int) ≥ t.length:=g1
  rw [gE' t .tm (fun n hn=>by rw [List.getElem?_eq_none (by omega)] at hn; cases hn)] at hRES;exact ⟨by rw [<- hRES]; rfl,Kp.refl _ _⟩
 have g1:¬ (at0:Int) ≥ t.length:=g1;have hlt:at0 < t.length:=by omega
 obtain ⟨n,hn,_⟩:=af' hlt;obtain ⟨b,o,rfl,i1,i2,i3,hcells⟩:=ft' hl hn;have none_of:(∀ m,t[at0]? = some m -> cnt .tm m = none) -> (-1:Int) = RES:=fun h=>by
  rw [gE' t .tm h] at hRES;exact hRES
 refine ix at0 rfl hlt ?_;refine ldN [iV n.op,iV n.a,iV n.b] rfl (fun j v hj=>hS _ _ _ (hcells j v hj)) ?_;refine ab' (gG' n w) ?_;rintro e w1 ⟨rfl,hk1⟩;have hS1:=hS.tr hk1;refine br (fun g2=>?_) (fun g2=>?_)
 ·have g2:¬ ah' n = true:=by simpa using g2
  exact ⟨by rw [<- none_of fun m hm=>by rw [hn] at hm; obtain rfl:=JB hm; simp [cnt,g2]]; rfl,hk1⟩
 have g2:ah' n = true:=by simpa using g2
 refine ix at0 rfl hlt ?_;refine ld (hS1 _ _ _ (hcells 0 _ rfl)).cell ?_;refine ac' (fun g3=>?_) (fun g3=>?_)
 ·have g3:n.op = 3:=g3
  exact ⟨by rw [<- none_of fun m hm=>by rw [hn] at hm; obtain rfl:=JB hm; simp [cnt,g3]]; rfl,hk1⟩
 have g3:¬ n.op = 3:=g3;refine ix at0 rfl hlt ?_;refine ld (hS1 _ _ _ (hcells 0 _ rfl)).cell ?_;refine ac' (fun g4=>?_) (fun g4=>?_)
 ·have g4:n.op = 13:=g4
  exact ⟨by rw [<- none_of fun m hm=>by rw [hn] at hm; obtain rfl:=JB hm; simp [cnt,g4]]; rfl,hk1⟩
 have g4:¬ n.op = 13:=g4;refine ix at0 rfl hlt ?_;refine ldN [iV n.op,iV n.a,iV n.b] rfl (fun j v hj=>hS1 _ _ _ (hcells j v hj)) ?_;refine new fun bn w2 hbn hB0 hs2 hk2=>?_;refine stN (vs:=[iV n.op,iV n.a,iV n.b]) hB0 rfl (by simp [Value.oneCell']) fun w3 hB hs3 hk3=>?_;have k13:Kp [] w1 w3:=hk2.newSt hbn hk3;have hB:Bk w3.heap bn [iV n.op,iV n.a,iV n.b] 45:=hB;have hS3:=hS1.tr k13;have k03:=hk1.tr k13;refine i6 ?_;refine ld (hB.cl rfl).cell ?_;refine ac' (fun g5=>?_) (fun g5=>?_)
 ·have g5:n.op = 2:=g5
  refine ld (hB.cl rfl).cell ?_;have hb:1 <= n.b /\ n.b <= 4:=by
   have:inR n.b 1 4 = true:=by simp [ah',g5] at g2; exact g2.2
   exact aF'.1 this
  obtain ⟨c,hc⟩:∃ c:Nat,n.b = c:=⟨n.b.toNat,by omega⟩
  rw [oi' t hn g5 g2,hc,Int.toNat_natCast] at hRES;rw [hc];refine ab' (om' hS3 t _ cap hl (at0 + 1) c (by omega) (by omega)) ?_;rintro e w4 ⟨rfl,hk4⟩;exact ⟨by rw [hRES]; rfl,k03.tr hk4⟩
 have g5:¬ n.op = 2:=g5;refine ldN [iV n.op,iV n.a,iV n.b] rfl (bZ hB) ?_;have hkp:=dj' g2;refine ab' (iT' n (by
  unfold I64;have:n.b <= 1000 /\ 0 <= n.b:=by
   simp only [ah'] at g2
   repeat' split at g2
   all_goals first | (simp [inR] at g2; omega) | contradiction
  omega) w3) ?_
 rintro e w4 ⟨rfl,hk4⟩;obtain ⟨c,hc⟩:∃ c:Nat,ar' n = c:=⟨(ar' n).toNat,by omega⟩
 rw [hc];have hcn:cnt .tm n = some c:=by simp [cnt,g2,g3,g4,g5,hc]
 obtain ⟨s',hs'⟩:∃ s',s' = (if n.op = 12 then Md.fn else Md.tm):=⟨_,rfl⟩
 rw [jX' t .tm hn hcn (fun _=>g5) (s':=s') (fun k=>by simp [nx,g5,hs']) g5] at hRES;have k04:=k03.tr hk4;refine lp τok (σ:=Nat × Nat) (fun q=>[(0,.slice (some ⟨b,o,none⟩) t.length cap),(1,iV (q.2:Int)),(5,.pointer (some ⟨bn,0,none⟩)),(53,iV (c:Int)),(54,iV (q.1:Int))]) (fun q w'=>q.1 <= c /\ at0 < q.2 /\ q.2 <= t.length /\ opI (ga' t s' (c - q.1) q.2) = RES /\ Kp [] w w' /\ Bk w'.heap bn [iV n.op,iV n.a,iV n.b] 45) (fun q=>c - q.1) (0,at0 + 1) rfl
  ⟨rfl,rfl,rfl,rfl,rfl,trivial⟩ ⟨KV _,Nat.lt_succ_self _,hlt,hRES,k04,hB.kp hk4 (by simp)⟩ ?_
 clear hB hRES
 rintro ⟨i,p⟩ w5 ⟨hi,hap,hpl,hr,hk5,hB⟩;simp only at hi hap hpl hr;have hS5:=hS.tr hk5;refine ac' (fun g=>?_) (fun g=>?_)
 ·have g:(i:Int) < c:=g
  obtain ⟨k,hk'⟩:∃ k,c - i = k + 1:=⟨c - i - 1,by omega⟩
  rw [hk'] at hr;simp only [ga'] at hr;refine ld (hB.cl rfl).cell ?_;refine ac' (fun h12=>?_) (fun h12=>?_)
  ·have h12:n.op = 12:=h12
   rw [if_pos h12] at hs';have fn_none:(∀ m,t[p]? = some m -> cnt .fn m = none) -> (-1:Int) = RES:=fun h=>by
    rw [hs',gE' t .fn h] at hr;exact hr
   refine ac' (fun q1=>?_) (fun q1=>?_)
   ·have q1:(p:Int) ≥ t.length:=q1
    exact ⟨by rw [<- fn_none fun m hm=>by rw [List.getElem?_eq_none (by omega)] at hm; cases hm]; rfl,hk5⟩
   have q1:¬ (p:Int) ≥ t.length:=q1;have hplt:p < t.length:=by omega
   obtain ⟨m,hm,_⟩:=af' hplt;obtain ⟨b',o',hbo,j1,j2,j3,hcm⟩:=ft' hl hm;injection hbo with hbo
   injection hbo with e1 e2
   subst e1 e2;refine ix p rfl hplt ?_;refine ld (hS5 _ _ _ (hcm 0 _ rfl)).cell ?_;refine ac' (fun q2=>?_) (fun q2=>?_)
   ·have q2:m.op ≠ 13:=q2
    exact ⟨by rw [<- fn_none fun m' hm'=>by rw [hm] at hm'; obtain rfl:=JB hm'; simp [cnt,q2]]; rfl,hk5⟩
   have q2:m.op = 13:=by simpa using q2
   refine ix p rfl hplt ?_;refine ldN [iV m.op,iV m.a,iV m.b] rfl (fun j v hj=>hS5 _ _ _ (hcm j v hj)) ?_;refine ab' (gG' m w5) ?_;rintro e w6 ⟨rfl,hk6⟩;refine br (fun q3=>?_) (fun q3=>?_)
   ·have q3:¬ ah' m = true:=by simpa using q3
    exact ⟨by rw [<- fn_none fun m' hm'=>by rw [hm] at hm'; obtain rfl:=JB hm'; simp [cnt,q3]]; rfl,hk5.tr hk6⟩
   have q3:ah' m = true:=by simpa using q3
   have hS6:=hS5.tr hk6;refine i6 ?_;have hc7:=ih (t.length - (p + 1)) (by omega) w6 hS6 ((p + 1:Nat):Int) (by omega) (by omega) (fun _=>by omega);rw [cR'] at hc7;refine ab' hc7 ?_;rintro e w7 ⟨rfl,hk7⟩;have hS7:=hS6.tr hk7;have hfn:endS t s' p = ga' t .tm 2 (p + 1):=by
    rw [hs'];exact jX' t .fn hm (c:=2) (by simp [cnt,q2,q3]) (fun h=>by cases h) (s':=.tm) (fun k=>rfl) (by rw [q2]; decide)
   rw [hfn] at hr;simp only [ga'] at hr;obtain ⟨r8,hr8⟩:∃ r8,endS t .tm (p + 1) = r8:=⟨_,rfl⟩
   have hr8':∀ z,r8 = some z -> p + 1 < z /\ z <= t.length:=fun z hz=>le' (by rw [hr8,hz]);rw [hr8] at hr ⊢;have hc9:=ih (t.length - (p + 1)) (by omega) w7 hS7 (opI r8) (by cases r8 <;> simp only [opI] <;> omega) (by cases r8 with
    | none=>simp [opI]
    | some z=>have:=hr8' z rfl; simp only [opI]; omega) (fun _=>by cases r8 with
    | none=>simp [opI] at *
    | some z=>have:=hr8' z rfl; simp only [opI,Int.toNat_natCast]; omega)
   rw [tc'] at hc9;have hr:opI (match (match r8 with
     | none=>none
     | some a'=>endS t .tm a') with
     | none=>none
     | some a'=>ga' t s' k a') = RES:=by
    rw [<- hr];cases r8 with
    | none=>rfl
    | some z =>
     simp only;cases endS t .tm z <;> rfl
   have hbk:=hB;have hB:=hB.kp (hk6.tr hk7) (by simp);have k57:=hk6.tr hk7;have hlast:∀ z,(match r8 with
     | none=>none
     | some a'=>endS t .tm a') = some z -> p < z /\ z <= t.length:=fun z hz=>by
    cases r8 with
    | none=>cases hz
    | some y =>
     have:=hr8' y rfl;have:=le' hz;omega
   refine ab' hc9 ?_;rintro e w9 ⟨rfl,hk9⟩;obtain ⟨r9,hr9⟩:∃ r9,(match r8 with
     | none=>none
     | some a'=>endS t .tm a') = r9:=⟨_,rfl⟩
   have hz9:∀ z,r9 = some z -> p < z /\ z <= t.length:=fun z hz=>hlast z (by rw [hr9,hz]);rw [hr9] at hr ⊢;refine ac' (fun g9=>?_) (fun g9=>?_)
   ·cases r9 with
    | none =>
     simp only at hr;exact ⟨by rw [<- hr]; rfl,((hk5.tr k57)).tr hk9⟩
    | some z =>
     have g9:opI (some z) < 0:=g9;simp only [opI] at g9;omega
   cases r9 with
   | none=>exact absurd (show opI none < 0 by decide) g9
   | some z =>
    simp only at hr;have hz:=hz9 z rfl;refine i6 ?_;refine ⟨(i + 1,z),by simp only; omega,rfl,⟨rfl,rfl,rfl,rfl,rfl,trivial⟩,by show i + 1 <= c; omega,by show at0 < z; omega,by show z <= t.length; omega,?_,((hk5.tr k57)).tr hk9,hB.kp hk9 (by simp)⟩;show opI (ga' t s' (c - (i + 1)) z) = RES;rw [show c - (i + 1) = k by omega];exact hr
  ·have h12:¬ n.op = 12:=h12
   rw [if_neg h12] at hs';have hc9:=ih (t.length - p) (by omega) w5 hS5 (p:Int) (by omega) (by omega) (fun _=>by omega);rw [cR'] at hc9;rw [show endS t s' p = endS t .tm p by rw [hs']] at hr;refine ab' hc9 ?_;rintro e w9 ⟨rfl,hk9⟩;obtain ⟨r9,hr9⟩:∃ r9,endS t .tm p = r9:=⟨_,rfl⟩
   have hz9:∀ z,r9 = some z -> p < z /\ z <= t.length:=fun z hz=>le' (by rw [hr9,hz]);rw [hr9] at hr ⊢;refine ac' (fun g9=>?_) (fun g9=>?_)
   ·cases r9 with
    | none =>
     simp only at hr;exact ⟨by rw [<- hr]; rfl,(hk5).tr hk9⟩
    | some z =>
     have g9:opI (some z) < 0:=g9;simp only [opI] at g9;omega
   cases r9 with
   | none=>exact absurd (show opI none < 0 by decide) g9
   | some z =>
    simp only at hr;have hz:=hz9 z rfl;refine i6 ?_;refine ⟨(i + 1,z),by simp only; omega,rfl,⟨rfl,rfl,rfl,rfl,rfl,trivial⟩,by show i + 1 <= c; omega,by show at0 < z; omega,by show z <= t.length; omega,?_,(hk5).tr hk9,hB.kp hk9 (by simp)⟩;show opI (ga' t s' (c - (i + 1)) z) = RES;rw [show c - (i + 1) = k by omega];exact hr
 ·have g:¬ (i:Int) < c:=g
  rw [show c - i = 0 by omega] at hr;exact ⟨by rw [<- hr]; rfl,hk5⟩
def bC' (t:List Nd):Int:=if t.length > 4096 then 9 else if (sk' t).isSome then 0 else 8
theorem aR' {w:World} (hS:Sub C w) (t:List Nd) (a:Option Addr) (cap:Nat) (hl:Sl rNd C a t) :
  CC 14 #[.slice a t.length cap] w (fun e w'=>e = .returned (iV (bC' t)) /\ Kp [] w w'):=by
 refine oF Tryz.func14 ?_;refine cO (args:=[_]) 11 [.tmp 2] τok Tryz.func14 ?_;refine ac' (fun g=>?_) (fun g=>?_)
 ·have g:(t.length:Int) > 4096:=g
  exact ⟨by unfold bC'; rw [if_pos (by omega)]; rfl,Kp.refl _ _⟩
 have g:¬ (t.length:Int) > 4096:=g;refine ab' (iU' t a cap hl t.length w hS 0 (by decide) (by decide) (fun _=>by omega)) ?_;rintro e w1 ⟨rfl,hk1⟩;have he:qF' t 0 = opI (endS t .tm 0):=cR' t 0;have hz:=ol' t;rw [he];refine ac' (fun g1=>?_) (fun g1=>?_)
 ·have g1:opI (endS t .tm 0) ≠ t.length:=g1
  refine ⟨?_,hk1⟩;unfold bC';rw [if_neg (by omega),if_neg fun q=>g1 (by rw [hz.2 q]; rfl)]
  rfl
 ·have g1:opI (endS t .tm 0) = t.length:=by simpa using g1
  refine ⟨?_,hk1⟩;unfold bC';rw [if_neg (by omega),if_pos (hz.1 ?_)]
  ·rfl
  ·cases h:endS t .tm 0 with
   | none=>rw [h] at g1; simp only [opI] at g1; omega
   | some z=>rw [h] at g1; simp only [opI] at g1; congr 1; omega
end
end Go.Proofs.YtpealcfjbcpoiaaGreat
namespace Go.Wx
def lj' (md:Region.Mode) (ops:Array Oper):Nat -> Nat -> Nat -> Bool
 | 0,j,k=>match ops[j]? with
  | some o=>o.after.any fun e=>Region.binds md e && e.on == k
  | none=>false
 | d + 1,j,k=>match ops[j]? with
  | some o=>o.after.any fun e=>Region.binds md e && (e.on == k || lj' md ops d e.on k)
  | none=>false
def cS' (md:Region.Mode) (ops:Array Oper) (j:Nat):Bool :=
 match ops[j]? with
 | some o=>(List.range ops.size).all fun k=>(k == j || o.after.any fun e=>Region.binds md e && (e.on == k || lj' md ops 12 e.on k)) || lj' md ops 12 k j
 | none=>false
def ClsV (md:Region.Mode) (ops:Array Oper) (listed:Array Bool):Prop:=∀ (k:Nat) o,ops[k]? = some o -> listed.getD k false = true -> ∀ e ∈ o.after,Region.binds md e = true -> listed.getD e.on false = true
theorem on' {listed:Array Bool} {j x:Nat} (h:listed.getD x false = true):(listed.setIfInBounds j true).getD x false = true:=by
 by_cases hjx:j = x
 ·subst hjx
  by_cases hl:j < listed.size
  ·simp [hl]
  ·simp [hl] at h
 ·rw [getD_set_ne false hjx]
  exact h
theorem ClsV.set {md:Region.Mode} {ops:Array Oper} {listed:Array Bool} {j:Nat} (h:ClsV md ops listed) (hj:j ∈ Region.ready md ops listed):ClsV md ops (listed.setIfInBounds j true):=by
 intro k o ho hk e he hb;obtain ⟨hun,oj,hoj,hall⟩:=mem_ready.1 hj
 by_cases hjk:j = k
 ·subst hjk
  rw [hoj] at ho;obtain rfl:=JB ho;exact on' (hall e he hb)
 ·rw [getD_set_ne false hjk] at hk
  exact on' (h k o ho hk e he hb)
theorem fu' {md:Region.Mode} {ops:Array Oper} {listed:Array Bool} (hc:ClsV md ops listed):∀ (d:Nat) {m i:Nat},listed.getD m false = true -> lj' md ops d m i = true -> listed.getD i false = true
 | 0,m,i,hm,h=>by
  unfold lj' at h;cases hom:ops[m]? with
  | none=>rw [hom] at h; cases h
  | some om =>
   rw [hom] at h;simp only [Array.any_eq_true,Bool.and_eq_true,beq_iff_eq] at h;obtain ⟨k',hk',h3,h4⟩:=h;have:=hc _ om hom hm _ (Array.getElem_mem hk') h3;rw [h4] at this;exact this
 | d + 1,m,i,hm,h=>by
  unfold lj' at h;cases hom:ops[m]? with
  | none=>rw [hom] at h; cases h
  | some om =>
   rw [hom] at h;simp only [Array.any_eq_true,Bool.and_eq_true,Bool.or_eq_true,beq_iff_eq] at h;obtain ⟨k',hk',h3,h4⟩:=h;have hl:=hc _ om hom hm _ (Array.getElem_mem hk') h3;rcases h4 with h4 | h4
   ·rw [h4] at hl
    exact hl
   ·exact fu' hc d hl h4
theorem lk' {md:Region.Mode} {ops:Array Oper} {listed:Array Bool} {i j:Nat} (hc:ClsV md ops listed) (h:cS' md ops j = true) (hj:j ∈ Region.ready md ops listed) (hir:i ∈ Region.ready md ops listed) (hi:i < ops.size) (hne:i ≠ j):listed.getD i false = true:=by
 obtain ⟨hun,oj,hoj,hall⟩:=mem_ready.1 hj;unfold cS' at h;rw [hoj] at h;have:=List.all_eq_true.1 h i (List.mem_range.2 hi);simp only [Bool.or_eq_true,beq_iff_eq,hne,false_or,Array.any_eq_true,Bool.and_eq_true] at this;rcases this with ⟨k,hk,h1,h2⟩ | h3
 ·have hm:=hall _ (Array.getElem_mem hk) h1
  rcases h2 with h2 | h2
  ·rw [<- h2]; exact hm
  ·exact fu' hc 12 hm h2
 ·obtain ⟨_,oi,hoi,halli⟩:=mem_ready.1 hir
  have key:listed.getD j false = true:=by
   unfold lj' at h3;rw [hoi] at h3;simp only [Array.any_eq_true,Bool.and_eq_true,Bool.or_eq_true,beq_iff_eq] at h3;obtain ⟨k',hk',h4,h5⟩:=h3;have hl:=halli _ (Array.getElem_mem hk') h4;rcases h5 with h5 | h5
   ·rw [<- h5]; exact hl
   ·exact fu' hc 11 hl h5
  exfalso
  by_cases hl:j < listed.size
  ·simp [hl] at hun key; rw [hun] at key; cases key
  ·simp [hl] at key
def cI' (P:Program) (md:Region.Mode) (ops:Array Oper) (Q:Exit -> Act -> World -> Prop) (S:World -> Prop):Nat -> Array Bool -> Act -> World -> Prop
 | 0,listed,a,w=>Region.ready md ops listed = [] /\ Q .normal a w
 | fuel + 1,listed,a,w=>(Region.ready md ops listed = [] -> Q .normal a w) /\
  ∀ i ∈ Region.ready md ops listed,wpOp P ops Q i (fun a' w'=>(S w' \/ cS' md ops i = true) /\ cI' P md ops Q S fuel (listed.setIfInBounds i true) a' w') a w
section
variable {P:Program} {ops:Array Oper} {Q:Exit -> Act -> World -> Prop} {md:Region.Mode} {S:World -> Prop}
theorem fv':∀ (fuel:Nat) (listed:Array Bool) (a:Act) (w:World),cI' P md ops Q S fuel listed a w -> wpAny P md ops Q fuel listed a w
 | 0,_,_,_,h=>h
 | fuel + 1,_,_,_,h=>⟨h.1,fun i hi=>wpOp_mono (fun a' w' h'=>fv' fuel _ a' w' h'.2) (h.2 i hi)⟩
theorem cT' {i:Nat} {oi:Oper} {v:Value} (hi:ops[i]? = some oi) (hsel:∀ (j:Nat) (o:Oper) cs b,ops[j]? = some o -> o.op ≠ .select cs b)
  (hQ:∀ c a w,Q (.panic c) (a.put oi.dst v) w -> Q (.panic c) a w) :
  ∀ (fuel:Nat) (listed:Array Bool) (a:Act) (w:World),
   (∀ j oj,ops[j]? = some oj -> j ≠ i -> listed.getD j true = false -> (∀ e ∈ oj.after,Region.binds md e = true -> e.on ≠ i) -> oi.apart ops oj = true) ->
   ClsV md ops listed -> i ∈ Region.ready md ops listed -> YieldsIf P ops S oi v a -> S w ->
   cI' P md ops Q S fuel (listed.setIfInBounds i true) (a.put oi.dst v) w -> cI' P md ops Q S (fuel + 1) listed a w:=by
 have hio:i < ops.size:=(Array.getElem?_eq_some_iff.1 hi).1;intro fuel
 induction fuel with
 | zero =>
  intro listed a w _ hcl hr hy hS H;refine ⟨fun h=>(by rw [h] at hr; cases hr),fun j hj=>?_⟩
  by_cases hji:j = i
  ·subst hji
   exact hy.wpOp hi hS ⟨.inl hS,H⟩
  ·have h0:=ready_mono hj hji
   rw [H.1] at h0;cases h0
 | succ fuel ih =>
  intro listed a w hfree hcl hr hy hS H;refine ⟨fun h=>(by rw [h] at hr; cases hr),fun j hj=>?_⟩
  by_cases hji:j = i
  ·subst hji
   exact hy.wpOp hi hS ⟨.inl hS,H⟩
  have h1:=H.2 j (ready_mono hj hji);obtain ⟨hjun,oj,hoj,hall⟩:=mem_ready.1 hj;have hnot:∀ e ∈ oj.after,Region.binds md e = true -> e.on ≠ i:=fun e he hb heq=>by
   have g1:=hall e he hb;have g0:=(mem_ready.1 hr).1;rw [heq] at g1
   by_cases hl:i < listed.size
   ·simp [hl] at g0 g1; rw [g0] at g1; cases g1
   ·simp [hl] at g1
  have hnw:¬ cS' md ops j = true:=fun hw=>by
   have g1:=lk' hcl hw hj hr hio (Ne.symm hji);have g0:=(mem_ready.1 hr).1
   by_cases hl:i < listed.size
   ·simp [hl] at g0 g1; rw [g0] at g1; cases g1
   ·simp [hl] at g1
  have h2:=wpOp_putIf hoj (hfree j oj hoj hji hjun hnot) (fun cs b=>hsel i oi cs b hi) (fun cs b=>hsel j oj cs b hoj) hQ hy h1;refine wpOp_mono (fun a' w' h3=>?_) h2;have hS':S w':=h3.2.1.resolve_right hnw;refine ⟨.inl hS',ih (listed.setIfInBounds j true) a' w' (fun k ok hk hki hun hno=>hfree k ok hk hki ?_ hno) (hcl.set hj) (ready_mono hr (Ne.symm hji)) h3.1 hS' ?_⟩
  ·by_cases hjk:j = k
   ·subst hjk; exact hjun
   ·rw [getD_set_ne true hjk] at hun; exact hun
  ·rw [Array.setIfInBounds_comm _ _ hji]
   exact h3.2.2
end
@[irreducible] def EvAnyV (P:Program) (n:Nat) (S:World -> Prop) (l:List Oper) (K:Exit -> St -> World -> Prop) (fuel:Nat) (listed:Array Bool) (s:St) (w:World):Prop :=
 ClsV .any l.toArray listed -> ∀ a,Fr n a s -> cI' P .any l.toArray (nZ' n K) S fuel listed a w
section
variable {P:Program} {τ:Tau} {n:Nat} {S:World -> Prop} {l:List Oper} {K:Exit -> St -> World -> Prop} {s:St} {w:World}
theorem as' {id:Nat} (hτ:ax' P τ) (S:World -> Prop) (h:EvAnyV P n S l K l.toArray.size (Array.replicate l.toArray.size false) s (dr w)):EvCode P n (.region id l.toArray true) s w K:=by
 unfold EvCode;intro a hF;unfold EvAnyV at h;exact Go.wp_mono (wp_region_any hτ.mixed (fv' _ _ _ _ (h (fun k o _ hk=>by simp [Array.getD] at hk) a hF))) fun e a' w' ⟨he,hl⟩=>by subst he; exact hl
theorem dR' (hs:Region.noSelect l.toArray = true) (hS:S w) {fuel:Nat}:∀ (is:List Nat) (ops:List Oper) (listed:Array Bool) (a:Act),picks l.toArray is ops -> cF' l.toArray listed is = true -> ClsV .any l.toArray listed ->
  wpQuiet P l.toArray S (fun a'=>cI' P .any l.toArray (nZ' n K) S fuel (marks listed is) a' w) ops a -> cI' P .any l.toArray (nZ' n K) S (fuel + is.length) listed a w
 | [],[],listed,a,_,_,_,h=>h
 | i :: r,o :: os,listed,a,hp,ht,hc,h=>by
  obtain ⟨hi,hpl,hp'⟩:=hp;simp only [cF',Bool.and_eq_true] at ht;obtain ⟨hf,hr,ht'⟩:=ht;unfold wpQuiet at h;have e:fuel + (i :: r).length = (fuel + r.length) + 1:=by simp; omega
  rw [e];have hr':i ∈ Region.ready .any l.toArray listed:=by simpa using hr
  split at h
  ·rename_i hw
   obtain ⟨v,hv,hn⟩:=h;refine cT' hi (Region.noSelect_spec hs) (fun c a w hq=>by cases hq.1) _ _ _ _ (Region.free_spec hi hf) hc hr' (.inl ⟨hw,fun w' hw'=>?_⟩) hS (dR' hs hS r os _ _ hp' ht' (hc.set hr') hn);have:=hv w' hw';unfold Oper.quietAt at this;cases hrun:(execOp a.eval o).run P w' with
   | ok r w'' =>
    obtain ⟨u,rfl⟩:=fL' hpl hrun;rw [hrun] at this;obtain ⟨e1,e2⟩:=this;rw [e1,e2]
   | halt x w''=>rw [hrun] at this; exact this.elim
  ·rename_i hw
   exact cT' hi (Region.noSelect_spec hs) (fun c a w hq=>by cases hq.1) _ _ _ _ (Region.free_spec hi hf) hc hr' (.inr ⟨by simpa using hw,rfl⟩) hS (dR' hs hS r os _ _ hp' ht' (hc.set hr') h)
 | [],_ :: _,_,_,hp,_,_,_=>hp.elim
 | _ :: _,[],_,_,hp,_,_,_=>hp.elim
theorem ClsV.marks:∀ {is:List Nat} {listed:Array Bool},ClsV .any l.toArray listed -> cF' l.toArray listed is = true -> ClsV .any l.toArray (marks listed is)
 | [],_,h,_=>h
 | i :: r,listed,h,ht=>by
  simp only [cF',Bool.and_eq_true] at ht;obtain ⟨hf,hr,ht'⟩:=ht;exact ClsV.marks (is:=r) (h.set (by simpa using hr)) ht'
theorem uL' (hτ:ax' P τ) (is:List Nat) {fuel:Nat} (fuel':Nat) {listed:Array Bool} (listed':Array Bool) (hf:fuel = fuel' + is.length) (hm:marks listed is = listed') (hp:picksB l is = true) (hs:Region.noSelect l.toArray = true) (ht:cF' l.toArray listed is = true) (hS:S w)
  (h:wpQ P τ n S l (fun s'=>EvAnyV P n S l K fuel' listed' s' w) (pickN l is) s):EvAnyV P n S l K fuel listed s w:=by
 subst hf hm;unfold EvAnyV;intro hc a hF;have h1:=eM' hτ (l:=l) (C:=S) (k:=fun s'=>EvAnyV P n S l K fuel' (marks listed is) s' w) (Q:=fun a'=>cI' P .any l.toArray (nZ' n K) S fuel' (marks listed is) a' w)
  (fun s' a' hF' hk=>by unfold EvAnyV at hk; exact hk (hc.marks ht) a' hF') (pickN l is) s a hF h
 exact dR' hs hS is _ listed a (iQ' hp) ht hc h1
theorem vX' (hτ:ax' P τ) {i fuel:Nat} {listed:Array Bool} {o:Oper} (hi:l[i]? = some o) {a:Act} (hF:Fr n a s) (hc:ClsV .any l.toArray listed) (hr:i ∈ Region.ready .any l.toArray listed)
  (h:wpL P τ n l (fun s' w'=>(S w' \/ cS' .any l.toArray i = true) /\ EvAnyV P n S l K fuel (listed.setIfInBounds i true) s' w') (fun _ _ _=>False) [o] s w) :
  wpOp P l.toArray (nZ' n K) i (fun a' w'=>(S w' \/ cS' .any l.toArray i = true) /\ cI' P .any l.toArray (nZ' n K) S fuel (listed.setIfInBounds i true) a' w') a w:=by
 refine jS' (o:=o) (by simpa using hi) sP' sQ' ?_;exact eK' hτ (l:=l) (Q:=fun e a' w'=>e = .normal /\ ((S w' \/ cS' .any l.toArray i = true) /\ cI' P .any l.toArray (nZ' n K) S fuel (listed.setIfInBounds i true) a' w'))
  (fun s' w' a' hF' hk=>⟨rfl,hk.1,by have:=hk.2; unfold EvAnyV at this; exact this (hc.set hr) a' hF'⟩) (fun _ _ _ _ _ hk=>hk.elim) [o] s w a hF h
theorem allV (hτ:ax' P τ) (is:List Nat) {fuel:Nat} {listed:Array Bool} (hr:Region.ready .any l.toArray listed = is) (hne:is ≠ [])
  (h:∀ i ∈ is,∃ o,l[i]? = some o /\ wpL P τ n l (fun s' w'=>(S w' \/ cS' .any l.toArray i = true) /\ EvAnyV P n S l K fuel (listed.setIfInBounds i true) s' w') (fun _ _ _=>False) [o] s w):EvAnyV P n S l K (fuel + 1) listed s w:=by
 unfold EvAnyV;intro hc a hF;refine ⟨fun h0=>absurd (hr ▸ h0) hne,fun j hj=>?_⟩;obtain ⟨o,ho,h⟩:=h j (hr ▸ hj);exact vX' hτ ho hF hc hj h
theorem vY' (hτ:ax' P τ) (i:Nat) {o:Oper} {fuel:Nat} (fuel':Nat) {listed:Array Bool} (listed':Array Bool) (hf:fuel = fuel' + 1) (hm:listed.setIfInBounds i true = listed') (hi:l[i]? = some o) (hr:Region.ready .any l.toArray listed = [i])
  (h:wpL P τ n l (fun s' w'=>(S w' \/ cS' .any l.toArray i = true) /\ EvAnyV P n S l K fuel' listed' s' w') (fun _ _ _=>False) [o] s w):EvAnyV P n S l K fuel listed s w:=by
 subst hf hm;refine allV hτ [i] hr (by simp) fun j hj=>?_;obtain rfl:j = i:=by simpa using hj
 exact ⟨o,hi,h⟩
theorem gd' (hτ:ax' P τ) (i j:Nat) {o o':Oper} {fuel:Nat} (fuel':Nat) {listed:Array Bool} (l1 l2:Array Bool) (hf:fuel = fuel' + 1) (hm1:listed.setIfInBounds i true = l1) (hm2:listed.setIfInBounds j true = l2) (hi:l[i]? = some o) (hj:l[j]? = some o') (hr:Region.ready .any l.toArray listed = [i,j])
  (h1:wpL P τ n l (fun s' w'=>(S w' \/ cS' .any l.toArray i = true) /\ EvAnyV P n S l K fuel' l1 s' w') (fun _ _ _=>False) [o] s w)
  (h2:wpL P τ n l (fun s' w'=>(S w' \/ cS' .any l.toArray j = true) /\ EvAnyV P n S l K fuel' l2 s' w') (fun _ _ _=>False) [o'] s w):EvAnyV P n S l K fuel listed s w:=by
 subst hf hm1 hm2;refine allV hτ [i,j] hr (by simp) fun m hm=>?_;have:m = i \/ m = j:=by simpa using hm
 rcases this with rfl | rfl
 ·exact ⟨o,hi,h1⟩
 ·exact ⟨o',hj,h2⟩
theorem vZ' {fuel:Nat} {listed:Array Bool} (hr:Region.ready .any l.toArray listed = []) (h:K .normal s w):EvAnyV P n S l K fuel listed s w:=by
 unfold EvAnyV;intro hc a hF;cases fuel with
 | zero=>exact ⟨hr,rfl,s,hF,h⟩
 | succ f=>exact ⟨fun _=>⟨rfl,s,hF,h⟩,by rw [hr]; simp⟩
end
section
variable {P:Program} {τ:Tau} {n:Nat} {S:World -> Prop} {l:List Oper} {K:Exit -> St -> World -> Prop} {s:St} {w:World}
theorem rV (hτ:ax' P τ) (is:List Nat) {fuel:Nat} (fuel':Nat) {listed:Array Bool} (listed':Array Bool) (hS:S w) (h:wpQ P τ n S l (fun s'=>EvAnyV P n S l K fuel' listed' s' w) (pickN l is) s) (hf:fuel = fuel' + is.length:=by kernel_rfl) (hm:marks listed is = listed':=by kernel_rfl) (hp:picksB l is = true:=by kernel_rfl) (hs:Region.noSelect l.toArray = true:=by kernel_rfl) (ht:cF' l.toArray listed is = true:=by kernel_rfl):EvAnyV P n S l K fuel listed s w:=uL' hτ is fuel' listed' hf hm hp hs ht hS h
theorem nV (hτ:ax' P τ) (i:Nat) {o:Oper} {fuel:Nat} (fuel':Nat) {listed:Array Bool} (listed':Array Bool) (h:wpL P τ n l (fun s' w'=>(S w' \/ cS' .any l.toArray i = true) /\ EvAnyV P n S l K fuel' listed' s' w') (fun _ _ _=>False) [o] s w) (hi:l[i]? = some o:=by rfl) (hf:fuel = fuel' + 1:=by kernel_rfl) (hm:listed.setIfInBounds i true = listed':=by kernel_rfl) (hr:Region.ready .any l.toArray listed = [i]:=by kernel_rfl):EvAnyV P n S l K fuel listed s w:=vY' hτ i fuel' listed' hf hm hi hr h
theorem dV {fuel:Nat} {listed:Array Bool} (h:K .normal s w) (hr:Region.ready .any l.toArray listed = []:=by kernel_rfl):EvAnyV P n S l K fuel listed s w:=vZ' hr h
end
theorem Own.kpG {α:Type} {R:Rd α} {e lo:Nat} {w w':World} {v:Value} {l:List α} {X:List Nat} (h:Own R e lo w v l) (hf:uI' R) (k:Kp X w w') (hx:∀ g,v.ownBlock = some g -> g ∉ X):Own R e lo w' v l:=by
 obtain ⟨⟨css,h1,h2⟩,h3⟩:=h;exact ⟨⟨css,oa' h1 k hx,h2.mono fun cs x hx'=>hf _ _ _ _ hx'⟩,KQ h3 k.size⟩
section
variable {P:Program} {τ:Tau} (hτ:ax' P τ) {T e sz bs:Nat} (hs:look τ.slcs T = some (e,sz,bs)) {C:World -> Prop} {kq:Value -> Prop} {a:Option Addr} {len cap:Nat}
include hτ hs
theorem cw' {j j':IntKind} {i i':Int} (l h:Nat) (v:Value) (hi:i = l) (hi':i' = h) (h1:l <= h) (h2:h <= cap) (hv:sliced a l h cap sz = v) (hk:kq v):EvRunQ P C (Instr.sliceAt T (.slice a len cap) (some (.int j i)) (some (.int j' i')) none) kq:=by
 obtain ⟨hu,hz⟩:=dw' hτ hs;subst hi hi' hv;refine sR' (v:=sliced a l h cap sz) (fun w _=>?_) hk;rw [run_sliceAt_slice w T _ _ _ _ hu,run_slice_lh w T a len cap hu j j' l h (by omega) (by omega) (by omega),hz];simp
end
theorem eT' {b o l h cap sz:Nat} (hl:l < cap):sliced (some ⟨b,o,none⟩) l h cap sz = .slice (some ⟨b,o + l * sz,none⟩) (h - l) (cap - l):=by
 unfold sliced;rw [if_neg (by omega)];simp [dO']
end Go.Wx
namespace Go.Proofs.YtpealcfjbcpoiaaGreat
open Go.Wx Cd Tm
theorem cy':uI' rNd:=fun _ _ _ _ h=>h
abbrev pt (b:Nat):Value:=.pointer (some ⟨b,0,none⟩)
abbrev qG' (e:Int):List PanicEntry:=[{ v:=.iface 68 (.agg #[iV e]),recovered:=false }]
structure Wk where
 bt:Nat
 ba:Nat
 bo:Nat
 bu:Nat
 bs:Nat
 Tt:Nat
 Ta:Nat
 To:Nat
 Tu:Nat
 Ts:Nat
 ta:Option Addr
 cap:Nat
 t:List Nd
 f:Nat
 caps:Array Value
 UB:List Nat
 lo:Nat
def Wk.clo (k:Wk):Value:=.func (.func 46) #[] #[pt k.bt,pt k.ba,pt k.bo,pt k.bu,pt k.bs]
def Wk.bl (k:Wk):List Nat:=[k.bt,k.ba,k.bo,k.bu,k.bs] ++ k.UB
structure Wk.Ok (k:Wk) (C:Mem):Prop where
 old:∀ b o v,C b o v -> b < k.lo
 row:Sl rNd C k.ta k.t
 cap:k.t.length <= k.cap
 low:∀ b ∈ k.bl,k.lo <= b
 nd:k.bl.Nodup
structure Wk.St (k:Wk) (C:Mem) (w:World) (p:Nat) (v:Value) (l:List Nd):Prop where
 sub:Sub C w
 bt:Bk w.heap k.bt [.slice k.ta k.t.length k.cap] k.Tt
 ba:Bk w.heap k.ba [iV (p:Int)] k.Ta
 bo:Bk w.heap k.bo [.func (.func k.f) #[] k.caps] k.To
 bu:Bk w.heap k.bu [v] k.Tu
 bs:Bk w.heap k.bs [k.clo] k.Ts
 own:Own rNd 45 k.lo w v l
 far:∀ g,v.ownBlock = some g -> g ∉ k.bl
 ub:∀ b ∈ k.UB,b < w.heap.size
def Lat (v v':Value) (w:World):Prop:=∀ g,v'.ownBlock = some g -> v.ownBlock = some g \/ w.heap.size <= g
def Wk.X (k:Wk) (v:Value):List Nat:=k.ba :: k.bu :: (v.ownBlock.toList ++ k.UB)
section
variable {k:Wk} {C:Mem}
theorem Wk.Ok.ne (h:k.Ok C):k.bt ≠ k.ba /\ k.bt ≠ k.bo /\ k.bt ≠ k.bu /\ k.bt ≠ k.bs /\ k.ba ≠ k.bo /\ k.ba ≠ k.bu /\ k.ba ≠ k.bs /\ k.bo ≠ k.bu /\ k.bo ≠ k.bs /\ k.bu ≠ k.bs /\ k.bt ∉ k.UB /\ k.ba ∉ k.UB /\ k.bo ∉ k.UB /\ k.bu ∉ k.UB /\ k.bs ∉ k.UB:=by
 have:=h.nd;simp only [Wk.bl,List.cons_append,List.nil_append,List.nodup_cons,JJ,not_or] at this;obtain ⟨⟨a1,a2,a3,a4,a5⟩,⟨b1,b2,b3,b4⟩,⟨c1,c2,c3⟩,⟨d1,d2⟩,e1,_⟩:=this;exact ⟨a1,a2,a3,a4,b1,b2,b3,c1,c2,d1,a5,b4,c3,d2,e1⟩
theorem Wk.Ok.subX (h:k.Ok C) {w w':World} {v:Value} {l:List Nd} (own:Own rNd 45 k.lo w v l) (hS:Sub C w) {X:List Nat} (hk:Kp X w w') (hx:∀ b ∈ X,k.lo <= b):Sub C w' :=
 hS.kp hk fun b o u hc hb=>by
  have:=hx b hb;have:=h.old b o u hc;omega
theorem Wk.St.kp (h:k.Ok C) {w w':World} {p:Nat} {v:Value} {l:List Nd} (s:k.St C w p v l) (hk:Kp [] w w'):k.St C w' p v l :=
 ⟨s.sub.tr hk,s.bt.kp hk (by simp),s.ba.kp hk (by simp),s.bo.kp hk (by simp),s.bu.kp hk (by simp),s.bs.kp hk (by simp),s.own.kp hk,s.far,fun b hb=>KZ (s.ub b hb) hk.size⟩
theorem Wk.St.at (h:k.Ok C) {w w':World} {p q:Nat} {v:Value} {l:List Nd} (s:k.St C w p v l) (hb:Bk w'.heap k.ba [iV (q:Int)] k.Ta) (hk:Kp [k.ba] w w'):k.St C w' q v l:=by
 obtain ⟨n1,n2,n3,n4,n5,n6,n7,n8,n9,n10,u1,u2,u3,u4,u5⟩:=h.ne;have hf:=s.far;refine ⟨h.subX s.own s.sub hk (by simp; exact h.low _ (by simp [Wk.bl])),s.bt.kp hk (by simpa using n1),hb,s.bo.kp hk (by simpa using Ne.symm n5),s.bu.kp hk (by simpa using Ne.symm n6),s.bs.kp hk (by simpa using Ne.symm n7),s.own.kpG cy' hk fun g hg hx=>?_,s.far,fun b hb=>KZ (s.ub b hb) hk.size⟩;have hx:g = k.ba:=by simpa using hx
 exact hf g hg (by rw [hx]; simp [Wk.bl])
theorem Wk.St.far' (h:k.Ok C) {w:World} {p:Nat} {v v':Value} {l:List Nd} (s:k.St C w p v l) (hl:Lat v v' w):∀ g,v'.ownBlock = some g -> g ∉ k.bl:=fun g hg hx=>by
 rcases hl g hg with h1 | h1
 ·exact s.far g h1 hx
 ·simp only [Wk.bl,List.cons_append,List.nil_append,JJ] at hx
  have b1:=s.bt.lt;have b2:=s.ba.lt;have b3:=s.bo.lt;have b4:=s.bu.lt;have b5:=s.bs.lt;rcases hx with rfl | rfl | rfl | rfl | rfl | hx
  ·omega
  ·omega
  ·omega
  ·omega
  ·omega
  ·have:=s.ub g hx
   omega
theorem Wk.St.out (h:k.Ok C) {w w1 w2:World} {p:Nat} {v v':Value} {l l':List Nd} (s:k.St C w p v l) (hk:Kp (v.ownBlock.toList ++ k.UB) w w1) (ho:Own rNd 45 k.lo w1 v' l') (hl:Lat v v' w)
  (hb:Bk w2.heap k.bu [v'] k.Tu) (hk2:Kp [k.bu] w1 w2):k.St C w2 p v' l':=by
 obtain ⟨n1,n2,n3,n4,n5,n6,n7,n8,n9,n10,u1,u2,u3,u4,u5⟩:=h.ne;have hf:=s.far;have hf':=s.far' h hl;have nin:∀ b,b ∈ [k.bt,k.ba,k.bo,k.bu,k.bs] -> b ∉ v.ownBlock.toList ++ k.UB:=fun b hb hx=>by
  rcases List.mem_append.1 hx with hx | hx
  ·have hg:v.ownBlock = some b:=by simpa using hx
   exact hf b hg (by simp only [Wk.bl]; exact List.mem_append_left _ hb)
  ·simp only [JJ,JZ,or_false] at hb
   rcases hb with rfl | rfl | rfl | rfl | rfl
   ·exact u1 hx
   ·exact u2 hx
   ·exact u3 hx
   ·exact u4 hx
   ·exact u5 hx
 have hS1:Sub C w1:=h.subX s.own s.sub hk fun b hx=>by
  rcases List.mem_append.1 hx with hx | hx
  ·have hg:v.ownBlock = some b:=by simpa using hx
   exact (s.own.block b hg).1
  ·exact h.low b (by simp only [Wk.bl]; exact List.mem_append_right _ hx)
 refine ⟨h.subX ho hS1 hk2 (by simp; exact h.low _ (by simp [Wk.bl])),(s.bt.kp hk (nin _ (by simp))).kp hk2 (by simpa using n3),(s.ba.kp hk (nin _ (by simp))).kp hk2 (by simpa using n6),(s.bo.kp hk (nin _ (by simp))).kp hk2 (by simpa using n8),hb,(s.bs.kp hk (nin _ (by simp))).kp hk2 (by simpa using Ne.symm n10),ho.kpG cy' hk2 fun g hg hx=>?_,hf',fun b hb=>KZ (s.ub b hb) (KQ hk.size hk2.size)⟩;have hx:g = k.bu:=by simpa using hx
 exact hf' g hg (by rw [hx]; simp [Wk.bl])
end
end Go.Proofs.YtpealcfjbcpoiaaGreat
namespace Go.Wx
def rNat (j:IntKind) (B:Nat):Rd Nat where
 sz:=1
 den _ cs x:=cs = [.int j (x:Int)] /\ x < B
 len:=by rintro _ cs x ⟨rfl,_⟩; rfl
 mono:=by rintro _ _ cs x _ h; exact h
 one:=by rintro _ cs x ⟨rfl,_⟩ u hu; simp at hu; subst hu; rfl
def RowN (j:IntKind) (h:Array Obj) (b:Nat) (l:List Nat) (T:TypeId):Prop:=Bk h b (l.map fun x:Nat=>Value.int j (x:Int)) T
section
variable {j:IntKind} {T:TypeId} {b:Nat} {l:List Nat}
theorem Sl.takeN {α:Type} {R:Rd α} {C:Mem} {a:Option Addr} {l:List α} (h:Sl R C a l) (k:Nat):Sl R C a (l.take k):=by
 refine ⟨by have:=h.1; simp; omega,?_⟩;rcases h.2 with h0 | ⟨b',o',e,hc⟩
 ·left; rw [List.length_take]; omega
 ·refine .inr ⟨b',o',e,fun i x hi=>?_⟩
  rw [List.getElem?_take] at hi;split at hi
  ·exact hc i x hi
  ·cases hi
end
section
variable {P:Program} {k:Value -> World -> Prop} {kq:Value -> Prop} {C:World -> Prop} {t:TypeId} {w:World}
theorem jK' {r:Int} {k:Value -> Prop} (z:Int) (h1:-9223372036854775808 <= z) (h2:z <= 9223372036854775807) (he:r = z) (hk:k (iV z)):EvInt .i64 r k:=by
 subst he;exact sO' h1 h2 hk
end
def qq' (n:Nat) (K:Exit -> St -> World -> Prop) (d:List Deferred):Exit -> Act -> World -> Prop:=fun e a w=>(e = .normal /\ lift n K .normal a w) \/ ∃ c,e = .panic c /\ a.tmps.size = n /\ a.defers = d /\ K (.panic c) ⟨[],d⟩ w
theorem mk' {n:Nat} {K:Exit -> St -> World -> Prop} {d:List Deferred} {c:List PanicEntry} {a:Act} {dst:Option Nat} {v:Value} {w:World} (h:qq' n K d (.panic c) (a.put dst v) w):qq' n K d (.panic c) a w:=by
 rcases h with ⟨h,_⟩ | ⟨c',e,h1,h2,h3⟩
 ·cases h
 ·cases e
  refine .inr ⟨c,rfl,?_,?_,h3⟩
  ·unfold Act.put at h1
   split at h1 <;> simpa using h1
  ·unfold Act.put at h2
   split at h2 <;> simpa using h2
theorem iV' {P:Program} {ops:Array Oper} {n:Nat} {K:Exit -> St -> World -> Prop} {d:List Deferred} {i:Nat} {o:Oper} {k:Act -> World -> Prop} {a:Act} {w:World} (hi:ops[i]? = some o)
  (h:wpList P ops (fun e a' w'=>(e = .normal /\ k a' w') \/ (∃ c,e = .panic c /\ qq' n K d (.panic c) a' w')) [o] a w):wpOp P ops (qq' n K d) i k a w:=by
 unfold wpOp;simp only [hi];unfold wpList at h;split at h
 ·rename_i hw
  rw [if_pos hw];rcases h with h | ⟨_,a',w',h⟩
  ·left
   unfold Oper.wp at *
   generalize (execOp a.eval o).run P w = r at *
   cases r with
   | ok x w' =>
    cases x <;> simp only [Oper.upon,wpList] at h ⊢
    case value v=>rcases h with ⟨_,h⟩ | ⟨_,h,_⟩; exact h; cases h
    case skip=>rcases h with ⟨_,h⟩ | ⟨_,h,_⟩; exact h; cases h
    case defer d=>rcases h with ⟨_,h⟩ | ⟨_,h,_⟩; exact h; cases h
    case enter f args =>
     refine Calls.mono h fun e w'' he=>?_;cases e with
     | returned u=>rcases he with ⟨_,h⟩ | ⟨_,h,_⟩; exact h; cases h
     | panicked c =>
      rcases he with ⟨h,_⟩ | ⟨c',h,h'⟩
      ·cases h
      ·cases h
       exact h'
     | outgrown =>
      obtain ⟨_,_,he⟩:=he;rcases he with ⟨h,_⟩ | ⟨_,h,_⟩ <;> cases h
    case row row args=>exact Rows.mono h fun u w'' he=>by rcases he with ⟨_,h⟩ | ⟨_,h,_⟩; exact h; cases h
   | halt x w' =>
    cases x <;> simp only [Oper.upon] at h ⊢
    case panic v =>
     rcases h with ⟨h,_⟩ | ⟨c',h,h'⟩
     ·cases h
     ·cases h
      exact h'
  ·rcases h with ⟨h,_⟩ | ⟨_,h,_⟩ <;> cases h
 ·rename_i hw
  rw [if_neg hw];simp only [wpList] at h;rcases h with ⟨_,h⟩ | ⟨_,h,_⟩
  ·exact h
  ·cases h
@[irreducible] def EvAnyP (P:Program) (n:Nat) (S:World -> Prop) (l:List Oper) (K:Exit -> St -> World -> Prop) (d:List Deferred) (fuel:Nat) (listed:Array Bool) (s:St) (w:World):Prop :=
 ClsV .any l.toArray listed -> ∀ a,Fr n a s -> cI' P .any l.toArray (qq' n K d) S fuel listed a w
section
variable {P:Program} {τ:Tau} {n:Nat} {S:World -> Prop} {l:List Oper} {K:Exit -> St -> World -> Prop} {d:List Deferred} {s:St} {w:World}
theorem cO' {id:Nat} (hτ:ax' P τ) (S:World -> Prop) (h:EvAnyP P n S l K s.d l.toArray.size (Array.replicate l.toArray.size false) s (dr w)):EvCode P n (.region id l.toArray true) s w K:=by
 unfold EvCode;intro a hF;unfold EvAnyP at h;refine Go.wp_mono (wp_region_any hτ.mixed (fv' _ _ _ _ (h (fun k o _ hk=>by simp [Array.getD] at hk) a hF))) fun e a' w' he=>?_;rcases he with ⟨he,hl⟩ | ⟨c,he,h1,h2,h3⟩
 ·subst he; exact hl
 ·subst he
  exact ⟨⟨[],s.d⟩,⟨h1,h2,fun t v ht=>by simp [kZ'] at ht⟩,h3⟩
theorem dS' (hs:Region.noSelect l.toArray = true) (hS:S w) {fuel:Nat}:∀ (is:List Nat) (ops:List Oper) (listed:Array Bool) (a:Act),picks l.toArray is ops -> cF' l.toArray listed is = true -> ClsV .any l.toArray listed ->
  wpQuiet P l.toArray S (fun a'=>cI' P .any l.toArray (qq' n K d) S fuel (marks listed is) a' w) ops a -> cI' P .any l.toArray (qq' n K d) S (fuel + is.length) listed a w
 | [],[],listed,a,_,_,_,h=>h
 | i :: r,o :: os,listed,a,hp,ht,hc,h=>by
  obtain ⟨hi,hpl,hp'⟩:=hp;simp only [cF',Bool.and_eq_true] at ht;obtain ⟨hf,hr,ht'⟩:=ht;unfold wpQuiet at h;have e:fuel + (i :: r).length = (fuel + r.length) + 1:=by simp; omega
  rw [e];have hr':i ∈ Region.ready .any l.toArray listed:=by simpa using hr
  split at h
  ·rename_i hw
   obtain ⟨v,hv,hn⟩:=h;refine cT' hi (Region.noSelect_spec hs) (fun c a w hq=>mk' hq) _ _ _ _ (Region.free_spec hi hf) hc hr' (.inl ⟨hw,fun w' hw'=>?_⟩) hS (dS' hs hS r os _ _ hp' ht' (hc.set hr') hn);have:=hv w' hw';unfold Oper.quietAt at this;cases hrun:(execOp a.eval o).run P w' with
   | ok r w'' =>
    obtain ⟨u,rfl⟩:=fL' hpl hrun;rw [hrun] at this;obtain ⟨e1,e2⟩:=this;rw [e1,e2]
   | halt x w''=>rw [hrun] at this; exact this.elim
  ·rename_i hw
   exact cT' hi (Region.noSelect_spec hs) (fun c a w hq=>mk' hq) _ _ _ _ (Region.free_spec hi hf) hc hr' (.inr ⟨by simpa using hw,rfl⟩) hS (dS' hs hS r os _ _ hp' ht' (hc.set hr') h)
 | [],_ :: _,_,_,hp,_,_,_=>hp.elim
 | _ :: _,[],_,_,hp,_,_,_=>hp.elim
theorem uM' (hτ:ax' P τ) (is:List Nat) {fuel:Nat} (fuel':Nat) {listed:Array Bool} (listed':Array Bool) (hf:fuel = fuel' + is.length) (hm:marks listed is = listed') (hp:picksB l is = true) (hs:Region.noSelect l.toArray = true) (ht:cF' l.toArray listed is = true) (hS:S w)
  (h:wpQ P τ n S l (fun s'=>EvAnyP P n S l K d fuel' listed' s' w) (pickN l is) s):EvAnyP P n S l K d fuel listed s w:=by
 subst hf hm;unfold EvAnyP;intro hc a hF;have h1:=eM' hτ (l:=l) (C:=S) (k:=fun s'=>EvAnyP P n S l K d fuel' (marks listed is) s' w) (Q:=fun a'=>cI' P .any l.toArray (qq' n K d) S fuel' (marks listed is) a' w)
  (fun s' a' hF' hk=>by unfold EvAnyP at hk; exact hk (hc.marks ht) a' hF') (pickN l is) s a hF h
 exact dS' hs hS is _ listed a (iQ' hp) ht hc h1
theorem am' (hτ:ax' P τ) (i:Nat) {o:Oper} {fuel:Nat} (fuel':Nat) {listed:Array Bool} (listed':Array Bool) (hf:fuel = fuel' + 1) (hm:listed.setIfInBounds i true = listed') (hi:l[i]? = some o) (hr:Region.ready .any l.toArray listed = [i])
  (h:wpL P τ n l (fun s' w'=>(S w' \/ cS' .any l.toArray i = true) /\ EvAnyP P n S l K d fuel' listed' s' w') (fun ch s' w'=>s'.d = d /\ K (.panic ch) ⟨[],d⟩ w') [o] s w):EvAnyP P n S l K d fuel listed s w:=by
 subst hf hm;unfold EvAnyP;intro hc a hF;refine ⟨fun h0=>absurd (hr ▸ h0) (by simp),fun j hj=>?_⟩;obtain rfl:j = i:=by simpa [hr] using hj
 refine iV' (o:=o) (by simpa using hi) ?_;exact eK' hτ (l:=l) (Q:=fun e a' w'=>(e = .normal /\ ((S w' \/ cS' .any l.toArray j = true) /\ cI' P .any l.toArray (qq' n K d) S fuel' (listed.setIfInBounds j true) a' w')) \/ (∃ c,e = .panic c /\ qq' n K d (.panic c) a' w'))
  (fun s' w' a' hF' hk=>.inl ⟨rfl,hk.1,by have:=hk.2; unfold EvAnyP at this; exact this (hc.set hj) a' hF'⟩) (fun ch s' w' a' hF' hk=>.inr ⟨ch,rfl,.inr ⟨ch,rfl,hF'.size,by rw [hF'.defers,hk.1],hk.2⟩⟩) [o] s w a hF h
theorem wa' {fuel:Nat} {listed:Array Bool} (hr:Region.ready .any l.toArray listed = []) (h:K .normal s w):EvAnyP P n S l K d fuel listed s w:=by
 unfold EvAnyP;intro hc a hF;cases fuel with
 | zero=>exact ⟨hr,.inl ⟨rfl,s,hF,h⟩⟩
 | succ f=>exact ⟨fun _=>.inl ⟨rfl,s,hF,h⟩,by rw [hr]; simp⟩
end
section
variable {P:Program} {τ:Tau} {n:Nat} {S:World -> Prop} {l:List Oper} {K:Exit -> St -> World -> Prop} {d:List Deferred} {s:St} {w:World}
theorem rP (hτ:ax' P τ) (is:List Nat) {fuel:Nat} (fuel':Nat) {listed:Array Bool} (listed':Array Bool) (hS:S w) (h:wpQ P τ n S l (fun s'=>EvAnyP P n S l K d fuel' listed' s' w) (pickN l is) s) (hf:fuel = fuel' + is.length:=by kernel_rfl) (hm:marks listed is = listed':=by kernel_rfl) (hp:picksB l is = true:=by kernel_rfl) (hs:Region.noSelect l.toArray = true:=by kernel_rfl) (ht:cF' l.toArray listed is = true:=by kernel_rfl):EvAnyP P n S l K d fuel listed s w:=uM' hτ is fuel' listed' hf hm hp hs ht hS h
theorem dP {fuel:Nat} {listed:Array Bool} (h:K .normal s w) (hr:Region.ready .any l.toArray listed = []:=by kernel_rfl):EvAnyP P n S l K d fuel listed s w:=wa' hr h
end
end Go.Wx
