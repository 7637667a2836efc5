import Derived.Test.YtmpgcpemnjbgjaaGreatMm13
set_option linter.unusedVariables false
set_option linter.unusedSimpArgs false
set_option maxRecDepth 100000
set_option maxHeartbeats 4000000
namespace Go.Proofs.YtmpgcpemnjbgjaaGreat
open Go.Wx Cd Tm Lv
abbrev RcF:=Tr -> List Int -> Bool
def bu' (rc:RcF):Nat -> Tr -> List Int -> Bool
 | 0,t,m=>rc t m
 | n + 1,t,m=>if t.n.op = 5 then rc (kidD t 0) m && bu' rc n (kidD t 1) (m ++ [2]) else rc t m
def tz' (s:Tr) (m:List Int):Bool :=
 let v:=if (headT s).n.op = 1 then ofM m (headT s).n.a else 0
 decide (v = 2) || (decide (v = 1) && decide ((argsT s).length = 0))
def eS' (B:BoT) (rc:RcF) (a:Int) (down:Bool) (m:List Int):Nat -> List Tr -> Bool
 | _,[]=>true
 | k,t :: r=>bu' rc (if down && decide (k < (entD B a).ctors.length) then ((entD B a).ctors.getD k default).args.length else 0) t m && eS' B rc a down m (k + 1) r
def jm' (B:BoT) (rc:RcF) (f:Tr) (m:List Int):Bool :=
 (rc (kidD f 0) m && rc (kidD f 1) m) && eS' B rc f.n.a (tz' (kidD f 1) m) m 0 ((kidsT f).drop 2)
def uW' (rc:RcF) (m m':List Int):List Tr -> Bool
 | t :: b :: r=>(rc t m && rc b m') && uW' rc m m' r
 | _=>true
def cd' (B:BoT) (pl:List Int):Nat -> RcF
 | 0,_,_=>false
 | g + 1,x,m =>
  let f:=headT x
  (argsT x).all (fun y=>cd' B pl g y m) &&
  (if f.n.op = 1 then (if ofM m f.n.a < 100 then true else decide (pl.getD (ofM m f.n.a - 100).toNat 0 < (argsT x).length) && rC' (qx' x (pl.getD (ofM m f.n.a - 100).toNat 0)) m)
  else if f.n.op = 11 then jm' B (cd' B pl g) f m
  else if f.n.op = 4 \/ f.n.op = 5 then cd' B pl g (kidD f 0) m && cd' B pl g (kidD f 1) (m ++ [0])
  else if f.n.op = 7 then (cd' B pl g (kidD f 0) m && cd' B pl g (kidD f 1) m) && cd' B pl g (kidD f 2) (m ++ [0])
  else if f.n.op = 12 then uW' (cd' B pl g) m (m ++ List.replicate f.n.b.toNat 0) (kidsT f)
  else true)
def Mk (pl m:List Int):Prop:=∀ v ∈ m,v = 0 \/ v = 1 \/ v = 2 \/ ∃ j:Nat,j < pl.length /\ v = 100 + j
theorem Mk.snoc {pl m:List Int} (h:Mk pl m) {v:Int} (hv:v = 0 \/ v = 1 \/ v = 2):Mk pl (m ++ [v]):=fun u hu=>by
 rcases List.mem_append.1 hu with hu | hu
 ·exact h u hu
 ·obtain rfl:u = v:=by simpa using hu
  rcases hv with h | h | h
  ·exact .inl h
  ·exact .inr (.inl h)
  ·exact .inr (.inr (.inl h))
theorem Mk.zeros {pl m:List Int} (h:Mk pl m) (k:Nat):Mk pl (m ++ List.replicate k 0):=fun u hu=>by
 rcases List.mem_append.1 hu with hu | hu
 ·exact h u hu
 ·exact .inl (List.mem_replicate.1 hu).2
theorem Mk.of {pl m:List Int} (h:Mk pl m) {v:Int} (h0:0 <= v):ofM m v < 100 \/ ∃ j:Nat,j < pl.length /\ ofM m v = 100 + j:=by
 unfold ofM;split
 ·left; omega
 ·rename_i g
  obtain ⟨x,hx,_⟩:=af' (l:=m) (k:=m.length - 1 - v.toNat) (by omega);rw [List.getD_eq_getElem?_getD,hx];rcases h x (List.mem_of_getElem? hx) with h | h | h | h
  ·left; simp only [Option.getD_some]; omega
  ·left; simp only [Option.getD_some]; omega
  ·left; simp only [Option.getD_some]; omega
  ·exact .inr h
def LkV (C:Mem) (B:BoT) (pl:List Int) (v:Value):Prop:=∃ v1 v2 v3 v4,v = .agg #[iV B.vars,v1,v2,iV B.nat,v3,v4] /\ SV rOr C B.orders v1 /\ SV rEn C B.ents v2 /\ SV rPr C B.prims v3 /\ SV rInt C pl v4
theorem LkV.mono {C D:Mem} {B:BoT} {pl:List Int} {v:Value} (h:LkV C B pl v) (hc:∀ b o v,C b o v -> D b o v):LkV D B pl v:=by
 obtain ⟨v1,v2,v3,v4,h0,h1,h2,h3,h4⟩:=h;exact ⟨v1,v2,v3,v4,h0,h1.mono hc,h2.mono hc,h3.mono hc,h4.mono hc⟩
def kz' (B:BoT) (pl:List Int) (g:Nat) (rc:RcF):Prop:=∀ (C:Mem) (w:World) (N:Int) (x:Tr) (m:List Int) (lv vx vm:Value),Sub C w -> LkV C B pl lv -> Ft (QB B) N x -> Mk pl m -> m.length + 4 * (row x).length <= 100000 -> (row x).length <= g -> TmV C x vx -> SV rInt C m vm ->
 CC 202 #[lv,vx,vm] w (fun e w'=>e = .returned (.bool (rc x m)) /\ Kp [] w w')
section
variable {B:BoT} {pl:List Int} {g:Nat} {rc:RcF} {C:Mem} {w:World} {N:Int} {m:List Int} {lv vm:Value}
theorem lH' (hrc:kz' B pl g rc) (hS:Sub C w) (hlv:LkV C B pl lv) {ys:List Tr} (hys:∀ y ∈ ys,Ft (QB B) N y /\ m.length + 4 * (row y).length <= 100000 /\ (row y).length <= g) (hl:ys.length <= 100000) (hm:Mk pl m) {va:Value} (hva:TmsV C ys va) (hvm:SV rInt C m vm) :
  CC 217 #[lv,vm,va] w (fun e w'=>e = .returned (.bool (ys.all fun y=>rc y m)) /\ Kp [] w w'):=by
 refine oF Tryz.func217 ?_;obtain ⟨RES,hRES⟩:∃ r,(ys.all fun y=>rc y m) = r:=⟨_,rfl⟩
 rw [hRES];have hva':=hva;obtain ⟨a,c,rfl,_,_⟩:=hva;obtain ⟨am,cm,rfl,_,_⟩:=id hvm;have hlv':=hlv;obtain ⟨v1,v2,v3,v4,rfl,_⟩:=hlv;refine cO (args:=[_,_,_]) 21 [.tmp 6] τok Tryz.func217 ?_;refine new fun b3 w1 hb3 h3 hs1 hk1=>?_;have h3:Bk w1.heap b3 [iV B.vars,v1,v2,iV B.nat,v3,v4] 246:=h3;refine lp τok (σ:=Nat) (fun i=>[(1,.slice am m.length cm),(3,pt b3),(9,.slice a ys.length c),(10,iV (ys.length:Int)),(11,iV (i:Int))])
  (fun i w'=>i <= ys.length /\ Kp [] w1 w' /\ ((ys.drop i).all fun y=>rc y m) = RES) (fun i=>ys.length - i) 0 rfl
  ⟨rfl,rfl,rfl,rfl,rfl,trivial⟩ ⟨Nat.zero_le _,Kp.refl _ _,hRES⟩ ?_
 rintro i w2 ⟨hi,hk2,hres⟩;have k02:=hk1.tr hk2;refine ac' (fun h=>?_) (fun h=>?_)
 ·have h:(i:Int) < ys.length:=h
  obtain ⟨y,hy,hd⟩:=af' (l:=ys) (k:=i) (by omega);rw [hd,List.all_cons] at hres;obtain ⟨b,o,c',e1,z,hz,hzT⟩:=hva'.get hy;injection e1 with q1 q2 q3
  subst q1 q3;obtain ⟨y1,y2,y3⟩:=hys y (List.mem_of_getElem? hy);refine ix i rfl (by omega) ?_;refine ldC (hS.tr k02) hz ?_;refine ldN [iV B.vars,v1,v2,iV B.nat,v3,v4] rfl (fun j v hj=>by rw [Nat.zero_add]; exact (h3.kp hk2 (by simp)).cl hj) ?_;refine ab' (hrc C w2 N y m _ z _ (hS.tr k02) hlv' y1 hm y2 y3 hzT hvm) ?_;rintro e w3 ⟨rfl,hk3⟩;refine br (fun g1=>?_) (fun g1=>?_)
  ·have g1:rc y m = false:=by simpa using g1
   rw [g1,Bool.false_and] at hres;subst hres;exact ⟨rfl,k02.tr hk3⟩
  ·have g1:rc y m = true:=by simpa using g1
   rw [g1,Bool.true_and] at hres;refine i6 ?_;exact ⟨i + 1,by omega,rfl,⟨rfl,rfl,rfl,rfl,rfl,trivial⟩,by omega,hk2.tr hk3,hres⟩
 ·have h:¬ (i:Int) < ys.length:=h
  rw [List.drop_eq_nil_of_le (by omega)] at hres;simp only [List.all_nil] at hres;subst hres;exact ⟨rfl,k02⟩
theorem dm' {x:Tr} (hx:Ok .tm x) (h:x.n.op = 4 \/ x.n.op = 5):row x = [x.n] ++ (row (kidD x 0) ++ row (kidD x 1)) /\ row x = (x.n :: row (kidD x 0)) ++ row (kidD x 1) /\ kidsT x = [kidD x 0,kidD x 1] /\ Ok .tm (kidD x 0):=by
 obtain ⟨hk,hkl⟩:=be' hx (by omega) (by omega);have hkc:aw' x.n = 2:=by rcases h with h | h <;> simp [aw',h]
 obtain ⟨a,b,hab⟩:=pg' (l:=x.ks) (by omega);have hk':=hk;rw [hab] at hk';have e0:kidD x 0 = a:=by simp [kidD,hk']
 have e1:kidD x 1 = b:=by simp [kidD,hk']
 have ho:Ok .tm a:=by
  obtain ⟨n,ks⟩:=x;simp only [Tr.ks] at hab;subst hab;have h1:=hx.kids;have h2:=bR' h1.2.1 h1.2.2;have:nx Md.tm n 0 = .tm:=by rcases h with h | h <;> simp only [Tr.n] at h <;> simp [nx,h]
  rw [this] at h2;exact h2.1
 rw [e0,e1];refine ⟨?_,?_,hk',ho⟩
 ·obtain ⟨n,ks⟩:=x
  simp only [Tr.ks] at hab;subst hab;simp [row,rows,Tr.n]
 ·obtain ⟨n,ks⟩:=x
  simp only [Tr.ks] at hab;subst hab;simp [row,rows,Tr.n]
theorem Own.ints {D:Mem} {e lo:Nat} {w:World} {v:Value} {l:List Int} (h:Own rInt e lo w v l) (hD:∀ b o v,New lo w b o v -> D b o v) (hl:l.length <= 1000000):SV rInt D l v:=by
 obtain ⟨a,c,hv,hc⟩:=h.cap;obtain ⟨a',c',hv',hs⟩:=h.den (by omega);rw [hv] at hv';injection hv' with q1 q2 q3
 subst q1 q3;exact ⟨a,c,hv,hs.mono hD,hc⟩
theorem gG' (hrc:kz' B pl g rc) (hS:Sub C w) (hlv:LkV C B pl lv) {x:Tr} (hx:Ft (QB B) N x) (hm:Mk pl m) (hml:m.length + 4 * (row x).length <= 100000) (hg:(row x).length <= g) {vx:Value} (hvx:TmV C x vx) (hvm:SV rInt C m vm) (n:Nat) (hn:n <= 1000) :
  CC 230 #[lv,vx,iV (n:Int),vm] w (fun e w'=>e = .returned (.bool (bu' rc n x m)) /\ Kp [] w w'):=by
 refine oF Tryz.func230 ?_;obtain ⟨RES,hRES⟩:∃ r,bu' rc n x m = r:=⟨_,rfl⟩
 rw [hRES];have hvx':=hvx;obtain ⟨ax,cx,rfl,_,_⟩:=hvx;have hvm':=hvm;obtain ⟨am,cm,rfl,hsm,_⟩:=hvm;have hlv':=hlv;obtain ⟨v1,v2,v3,v4,rfl,_⟩:=hlv;refine cO (args:=[_,_,_,_]) 42 [.tmp 8] τok Tryz.func230 ?_;refine new fun b4 w1 hb4 h4 hs1 hk1=>?_;have h4:Bk w1.heap b4 [iV B.vars,v1,v2,iV B.nat,v3,v4] 246:=h4;refine ab' (bH' (hS.tr hk1) m am cm hsm (by omega)) ?_;rintro e w2 ⟨⟨vo,rfl,hO⟩,hk2⟩;have k02:=hk1.tr hk2;refine lp τok (σ:=Nat × Tr × Int × List Int × Value × Value) (fun q=>[(1,q.2.2.2.2.1),(2,iV (q.1:Int)),(3,q.2.2.2.2.2),(4,pt b4)])
  (fun q w'=>q.1 <= n /\ Ft (QB B) q.2.2.1 q.2.1 /\ Mk pl q.2.2.2.1 /\ q.2.2.2.1.length + 4 * (row q.2.1).length <= 100000 /\ (row q.2.1).length <= g /\ TmV C q.2.1 q.2.2.2.2.1 /\ Own rInt 248 w1.heap.size w' q.2.2.2.2.2 q.2.2.2.1 /\ Kp [] w1 w' /\ bu' rc q.1 q.2.1 q.2.2.2.1 = RES) (fun q=>q.1) (n,x,N,m,_,vo) rfl
  ⟨rfl,rfl,rfl,rfl,trivial⟩ ⟨Nat.le_refl _,hx,hm,hml,hg,hvx',hO,hk2,hRES⟩ ?_
 clear hO hRES
 rintro ⟨i,y,M,l,vy,vl⟩ w3 ⟨hi,hy,hl,hll,hyg,hvy,hO,hk3,hres⟩;simp only at hi hy hl hll hyg hvy hO hres;have k03:=hk1.tr hk3;have hS3:=hS.tr k03;have hvy':=hvy;have hyp:=ag' y;obtain ⟨b,o,c,rfl,_,_,_,hcy⟩:=hvy.hd;have last:∀ {s:St},bu' rc i y l = rc y l -> (get s.e 1 = some (.slice (some ⟨b,o,none⟩) (row y).length c)) -> True:=fun _ _=>trivial;have fin:=hrc (Cn C w w3) w3 M y l (.agg #[iV B.vars,v1,v2,iV B.nat,v3,v4]) _ vl (Cn.sub hS k03) (hlv'.mono fun _ _ _ h=>.inl h) hy hl hll hyg (hvy'.mono fun _ _ _ h=>.inl h) (Own.ints hO (fun b o v h=>.inr ⟨Nat.le_trans hk1.size h.1,h.2⟩) (by omega));refine ac' (fun g1=>?_) (fun g1=>?_)
 ·have g1:(0:Int) < (i:Int):=g1
  obtain ⟨j,rfl⟩:∃ j,i = j + 1:=⟨i - 1,by omega⟩
  refine ix 0 rfl (ag' _) ?_;refine ldC hS3 (by simpa using hcy 0 _ rfl) ?_;refine ac' (fun g2=>?_) (fun g2=>?_)
  ·have g2:y.n.op = 5:=g2
   simp only [bu',if_pos g2] at hres;obtain ⟨e1,e2,hkk,ho0⟩:=dm' hy.ok (.inr g2);have f0:=hy.kidN 0 (by rw [hkk]; simp) (b:=0) (by simp [kb,bb',g2]);have f1:=hy.kidN 1 (by rw [hkk]; simp) (b:=1) (by simp [kb,bb',g2]);have hlen:(row y).length = 1 + (row (kidD y 0)).length + (row (kidD y 1)).length:=by rw [e1]; simp; omega
   have hp0:=ag' (kidD y 0);have hp1:=ag' (kidD y 1);refine ab' (cA' hS3 hvy' hy.len e1 ho0 (i:=1) rfl) ?_;rintro e w4 ⟨rfl,hk4⟩;have k04:=k03.tr hk4;obtain ⟨a7,c7,q7,hle7,hc7,v7,hs7,hT7⟩:=hvy'.cut e1;injection q7 with q1 _ q2
   subst q1 q2;obtain ⟨a8,c8,q8,hle8,v8,hs8,hT8⟩:=hvy'.cutT e2;injection q8 with q1 _ q2
   subst q1 q2;have hfl:(y.n :: row (kidD y 0)).length = 1 + (row (kidD y 0)).length:=by simp; omega
   obtain ⟨av,cv,rfl⟩:=hO.len;have hO4:=hO.kp hk4;refine am' τok (fun z=>Kp [] w4 z) ?_;refine rV τok (rg 0 5) 2 (mR 7 5) (kQd w4) ?_;refine aO' [iV B.vars,v1,v2,iV B.nat,v3,v4] rfl (fun j v hj=>by rw [Nat.zero_add]; exact (h4.kp (hk3.tr hk4) (by simp)).cl hj) ?_;refine ch' τok rfl 1 (1 + (row (kidD y 0)).length) v7 rfl (by simp) (by omega) (by simp at hle7; omega) hs7 ?_;refine nV τok 5 1 (mR 7 6) ?_;refine ab' (hrc (Cn C w w4) (dr w4) M (kidD y 0) l _ v7 _ (Sub.dr (Cn.sub hS k04) _) (hlv'.mono fun _ _ _ h=>.inl h) (f0.mono (by omega)) hl (by omega) (by omega) (hT7.mono fun _ _ _ h=>.inl h) (Own.ints hO4 (fun b o v h=>.inr ⟨Nat.le_trans hk1.size h.1,h.2⟩) (by omega))) ?_;rintro e w5 ⟨rfl,hk5⟩;have hk5:Kp [] w4 w5:=hk5.rd;refine ⟨.inl hk5,?_⟩;refine rV τok [6] 0 (mR 7 7) hk5 ?_;refine dV ?_;refine br (fun g3=>?_) (fun g3=>?_)
   ·have g3:rc (kidD y 0) l = false:=by simpa using g3
    rw [g3,Bool.false_and] at hres;subst hres;exact ⟨rfl,k04.tr hk5⟩
   ·have g3:rc (kidD y 0) l = true:=by simpa using g3
    rw [g3,Bool.true_and] at hres;refine fill [iV 2] rfl ?_;refine new fun bx w6 hbx hX hs6 hk6=>?_;have hO6:=(hO4.kp hk5).kp hk6;refine hO6.ap1 τok rfl rfl (by decide) 2 [iV 2] ⟨rfl,(by decide:(-9223372036854775808:Int) <= 2),(by decide:(2:Int) <= 9223372036854775807)⟩ (bZ hX) (by omega) (by simp only [maxLen]; omega) fun v9 w7 hO7 hk7 _=>?_;refine iE' τok rfl (y.n :: row (kidD y 0)).length v8 (by simp; omega) hle8 hs8 ?_;refine i6 ?_;refine ⟨(j,kidD y 1,M + 1,l ++ [2],v8,v9),by simp only; omega,rfl,⟨rfl,?_,rfl,rfl,trivial⟩,by show j <= n; omega,f1,hl.snoc (by omega),?_,by simp only; omega,hT8,hO7,(((hk3.tr hk4).tr hk5).tr hk6).own hk7 hO6,hres⟩
    ·show some (iV _) = some (iV (j:Int))
     congr 3
     omega
    ·simp only [List.length_append,List.length_cons,List.length_nil]
     omega
  ·have g2:¬ y.n.op = 5:=g2
   simp only [bu',if_neg g2] at hres;refine ldN [iV B.vars,v1,v2,iV B.nat,v3,v4] rfl (fun j v hj=>by rw [Nat.zero_add]; exact (h4.kp hk3 (by simp)).cl hj) ?_;refine ab' fin ?_;rintro e w4 ⟨rfl,hk4⟩;rw [hres];exact ⟨rfl,k03.tr hk4⟩
 ·have g1:¬ (0:Int) < (i:Int):=g1
  obtain rfl:i = 0:=by omega
  simp only [bu'] at hres;refine ldN [iV B.vars,v1,v2,iV B.nat,v3,v4] rfl (fun j v hj=>by rw [Nat.zero_add]; exact (h4.kp hk3 (by simp)).cl hj) ?_;refine ab' fin ?_;rintro e w4 ⟨rfl,hk4⟩;rw [hres];exact ⟨rfl,k03.tr hk4⟩
end
theorem uX' {D:Mem} {w:World} {b T:Nat} {z1 z2:Value} {x1 x2:Tr} (hB:Bk w.heap b [z1,z2] T) (hb:∀ o v,Cl w.heap b o v -> D b o v) (h1:TmV D x1 z1) (h2:TmV D x2 z2):TmsV D [x1,x2] (.slice (some ⟨b,0,none⟩) 2 2):=by
 refine ⟨some ⟨b,0,none⟩,2,rfl,⟨by simp,.inr ⟨b,0,rfl,fun i q hq=>?_⟩⟩,by simp⟩
 match i,hq with
 | 0,hq =>
  obtain rfl:row x1 = q:=by simpa using hq
  obtain ⟨a,c,rfl,hs,hc⟩:=h1;refine ⟨_,⟨a,c,rfl,hc,hs⟩,fun j u hj=>hb _ _ ?_⟩
  match j,hj with
  | 0,hj=>obtain rfl:=Option.some.inj hj; exact hB.cl (o:=0) rfl
  | j + 1,hj=>cases hj
 | 1,hq =>
  obtain rfl:row x2 = q:=by simpa using hq
  obtain ⟨a,c,rfl,hs,hc⟩:=h2;refine ⟨_,⟨a,c,rfl,hc,hs⟩,fun j u hj=>hb _ _ ?_⟩
  match j,hj with
  | 0,hj=>obtain rfl:=Option.some.inj hj; exact hB.cl (o:=1) rfl
  | j + 1,hj=>cases hj
 | i + 2,hq=>simp at hq
theorem lI' {x:Tr} (hx:Ok .tm x) (h11:x.n.op = 11) {k:Nat} (hk:k < x.ks.length):x.ks[k]? = some (kidD x k) /\ Ok .tm (kidD x k) /\ row x = (x.n :: rows (x.ks.take k)) ++ (row (kidD x k) ++ rows (x.ks.drop (k + 1))) /\ (rows (x.ks.take (k + 1))).length = (rows (x.ks.take k)).length + (row (kidD x k)).length:=by
 obtain ⟨hkk,_⟩:=aL' hx h11;obtain ⟨y,hy,_⟩:=af' hk;have e:kidD x k = y:=by simp [kidD,hkk,hy]
 rw [e];refine ⟨hy,?_,ie' hy,?_⟩
 ·obtain ⟨n,ks⟩:=x
  obtain ⟨hc,hok,hi⟩:=hx.kids;refine ⟨?_,dR' ks k y hi hy⟩;have:=fj' ks 0 k y hok hy;have h11:n.op = 11:=h11;have hn:nx Md.tm n (0 + k) = .tm:=by simp [nx,h11]
  rwa [hn] at this
 ·rw [al' hy,bm']
  simp [rows]
section
variable {B:BoT} {pl:List Int} {g:Nat} {rc:RcF} {C:Mem} {w:World} {N:Int} {m:List Int} {lv vm:Value}
theorem pB' (hB:GoodB B) (hrc:kz' B pl g rc) (hS:Sub C w) (hlv:LkV C B pl lv) {x:Tr} (hx:Ft (QB B) N x) (h11:x.n.op = 11) (hm:Mk pl m) (hml:m.length + 4 * (row x).length <= 100000) (hg:(row x).length <= g + 1) {vx:Value} (hvx:TmV C x vx) (hvm:SV rInt C m vm) :
  CC 220 #[lv,vx,vm] w (fun e w'=>e = .returned (.bool (jm' B rc x m)) /\ Kp [] w w'):=by
 refine oF Tryz.func220 ?_;obtain ⟨RES,hRES⟩:∃ r,jm' B rc x m = r:=⟨_,rfl⟩
 rw [hRES];unfold jm' at hRES;have hlen:=hx.len;obtain ⟨hkk,hkl,hb0,hb1⟩:=aL' hx.ok h11;obtain ⟨nb,hnb⟩:∃ nb:Nat,x.n.b = (nb:Int):=⟨x.n.b.toNat,by omega⟩
 have hks:x.ks.length = 2 + nb:=by omega
 obtain ⟨p1,p2,p3,p4⟩:=lI' hx.ok h11 (k:=0) (by omega);obtain ⟨q1,q2,q3,q4⟩:=lI' hx.ok h11 (k:=1) (by omega);have kF:∀ k,k < x.ks.length -> Ft (QB B) N (kidD x k):=fun k hk=>by
  have:=hx.kidN k (by rw [hkk]; exact hk) (b:=0) (by simp [kb,bb',h11]);exact this.mono (by omega)
 have k0F:=kF 0 (by omega);have k1F:=kF 1 (by omega);have hrow:(row x).length = 1 + (rows x.ks).length:=by
  obtain ⟨n,ks⟩:=x;simp [row,Tr.ks];omega
 have hsub:∀ k,(rows (x.ks.take k)).length <= (rows x.ks).length:=fun k=>by
  have:=bm' (x.ks.take k) (x.ks.drop k);rw [List.take_append_drop] at this;rw [this,List.length_append];omega
 have hs1:=hsub 1;have hs2:=hsub 2;have z0:rows (x.ks.take 0) = []:=rfl;rw [z0] at p3;have p4:(rows (x.ks.take 1)).length = (row (kidD x 0)).length:=by rw [show (1:Nat) = 0 + 1 from rfl,p4,z0]; simp
 have q4:(rows (x.ks.take 2)).length = (rows (x.ks.take 1)).length + (row (kidD x 1)).length:=q4;have h0p:=ag' (kidD x 0);have h1p:=ag' (kidD x 1);obtain ⟨i,en,so,ps,qi,hna,hi,hen,hxD,hGF⟩:=hB.fam (lB' hx.node' (.inr h11)) (Nat.le_refl _);have hvx':=hvx;obtain ⟨bx,ox,cx,rfl,_,_,_,hcx⟩:=hvx.hd;have hvm':=hvm;obtain ⟨am,cm,rfl,hsm,_⟩:=hvm;have hlv':=hlv;obtain ⟨v1,v2,v3,v4,rfl,_,hEn,_,_⟩:=hlv;refine dO' (args:=[_,_,_]) 108 [.tmp 6] Tryz.func220 rfl rfl rfl (Nat.le_of_ble_eq_true rfl) ?_;refine aV' τok ?_;refine new fun b3 w1 hb3 h3 hs1' hk1=>?_;have h3:Bk w1.heap b3 [iV B.vars,v1,v2,iV B.nat,v3,v4] 246:=h3;refine aV' τok ?_;refine ab' (cA' (hS.tr hk1) hvx' hlen p3 p2 (i:=1) rfl) ?_;rintro e w2 ⟨rfl,hk2⟩;have k02:=hk1.tr hk2;refine aV' τok ?_;refine ab' (cA' (hS.tr k02) hvx' hlen q3 q2 (by simp; omega)) ?_;rintro e w3 ⟨rfl,hk3⟩;have k03:=k02.tr hk3;have k13:=hk2.tr hk3;obtain ⟨a7,c7,u7,hle7,hc7,z7,hsz7,hT7⟩:=hvx'.cut p3;injection u7 with u1 _ u2
 subst u1 u2;obtain ⟨a8,c8,u8,hle8,hc8,z8,hsz8,hT8⟩:=hvx'.cut q3;injection u8 with u1 _ u2
 subst u1 u2;obtain ⟨az7,cz7,rfl,_,_⟩:=id hT7;obtain ⟨az8,cz8,rfl,_,_⟩:=id hT8;have e1:(x.n :: rows (x.ks.take 1)).length = 1 + (row (kidD x 0)).length:=by simp; omega
 have e0:(x.n :: ([]:List Nd)).length = 1:=rfl;refine aV' τok ?_;refine am' τok (fun z=>Kp [] w3 z) ?_;refine rV τok (rg 0 9) 3 (mR 12 9) (kQd w3) ?_;refine aO' [iV B.vars,v1,v2,iV B.nat,v3,v4] rfl (fun j v hj=>by rw [Nat.zero_add]; exact (h3.kp k13 (by simp)).cl hj) ?_;refine ch' τok rfl 1 (1 + (row (kidD x 0)).length) (.slice az7 (row (kidD x 0)).length cz7) rfl (by simp) (by omega) (by omega) hsz7 ?_;refine ch' τok rfl (1 + (row (kidD x 0)).length) ((x.n :: rows (x.ks.take 1)).length + (row (kidD x 1)).length) (.slice az8 (row (kidD x 1)).length cz8) (by simp) rfl (by omega) (by omega) (by rw [<- e1]; exact hsz8) ?_;refine nV τok 9 2 (mR 12 10) ?_;refine fill [.slice az7 (row (kidD x 0)).length cz7,.slice az8 (row (kidD x 1)).length cz8] rfl ?_;refine new fun b9 w4 hb9 h9 hs4 hk4=>?_;have hk4:Kp [] w3 w4:=hk4.rd;have k04:=k03.tr hk4;have hb9l:w.heap.size <= b9:=by
  have:b9 = w3.heap.size:=hb9;have:=k03.size;omega
 refine ⟨.inl hk4,?_⟩;refine nV τok 10 1 (mR 12 11) ?_;refine ab' (lH' (C:=fun b o v=>C b o v \/ Cl w4.heap b o v /\ w.heap.size <= b) (N:=N) (ys:=[kidD x 0,kidD x 1]) hrc (fun b o v h=>h.elim (hS.tr k04 b o v) fun h=>h.1) (hlv'.mono fun _ _ _ h=>.inl h) (fun y hy=>by
  simp only [List.mem_cons,List.not_mem_nil,or_false] at hy;rcases hy with rfl | rfl
  ·exact ⟨k0F,by omega,by omega⟩
  ·exact ⟨k1F,by omega,by omega⟩) (by simp) hm (uX' h9 (fun o v h=>.inr ⟨h,hb9l⟩) (hT7.mono fun _ _ _ h=>.inl h) (hT8.mono fun _ _ _ h=>.inl h)) (hvm'.mono fun _ _ _ h=>.inl h)) ?_
 rintro e w5 ⟨rfl,hk5⟩;have k35:=hk4.tr hk5;refine ⟨.inl k35,?_⟩;refine rV τok [11] 0 (mR 12 12) k35 ?_;refine dV ?_;have k05:=k03.tr k35;have e2:([kidD x 0,kidD x 1].all fun y=>rc y m) = (rc (kidD x 0) m && rc (kidD x 1) m):=by simp
 obtain ⟨r0,hr0⟩:∃ r0,(rc (kidD x 0) m && rc (kidD x 1) m) = r0:=⟨_,rfl⟩
 rw [e2,hr0];rw [hr0] at hRES;refine br (fun g1=>?_) (fun g1=>?_)
 ·have g1:r0 = false:=by simpa using g1
  rw [g1,Bool.false_and] at hRES;subst hRES;exact ⟨rfl,k05⟩
 have g1:r0 = true:=by simpa using g1
 rw [g1,Bool.true_and] at hRES
 clear e2
 refine aV' τok ?_;refine hU' τok rfl (1 + (row (kidD x 0)).length) ((x.n :: rows (x.ks.take 1)).length + (row (kidD x 1)).length) (.slice az8 (row (kidD x 1)).length cz8) (by simp) rfl (by omega) (by omega) (by rw [<- e1]; exact hsz8) ?_;refine ab' (jl' (hS.tr k05) q2 k1F.len hT8) ?_;rintro e w6 ⟨⟨uh,ua,rfl,huh,hua⟩,hk6⟩;have k06:=k05.tr hk6;have k16:=(k13.tr k35).tr hk6;refine aV' τok ?_;have huh':=huh;obtain ⟨bh,oh,ch,rfl,_,_,_,hch⟩:=huh.hd;obtain ⟨aa,ca,rfl,_,_⟩:=hua;have hS6:=hS.tr k06;obtain ⟨V,hV⟩:∃ V,(if (headT (kidD x 1)).n.op = 1 then ofM m (headT (kidD x 1)).n.a else 0) = V:=⟨_,rfl⟩
 refine fy' τok (σ:=Unit) (fun _=>[(1,.slice (some ⟨bx,ox,none⟩) (row x).length cx),(2,.slice am m.length cm),(3,pt b3),(8,iV (((x.n :: rows (x.ks.take 1)).length + (row (kidD x 1)).length:Nat):Int)),(10,.slice aa (argsT (kidD x 1)).length ca),(11,iV V)])
  (fun _ w'=>Kp [] w6 w') ?_ ?_
 ·refine ix 0 rfl (ag' _) ?_
  refine ldC hS6 (by simpa using hch 0 _ rfl) ?_;refine ac' (fun g2=>?_) (fun g2=>?_)
  ·have g2:(headT (kidD x 1)).n.op = 1:=g2
   rw [if_pos g2] at hV;refine ix 0 rfl (ag' _) ?_;refine ldC hS6 (by simpa using hch 1 _ rfl) ?_;have hp:=aW' k1F.head.ok.pl;refine ab' (tw' hS6 hvm' hp.2.2.1 (by omega)) ?_;rintro e w7 ⟨rfl,hk7⟩;rw [hV];exact ⟨(),rfl,⟨rfl,rfl,rfl,rfl,rfl,rfl,trivial⟩,hk7⟩
  ·have g2:¬ (headT (kidD x 1)).n.op = 1:=g2
   rw [if_neg g2] at hV;subst hV;exact ⟨(),rfl,⟨rfl,rfl,rfl,rfl,rfl,rfl,trivial⟩,Kp.refl _ _⟩
 rintro ⟨⟩ w6b hk6b;have k06:=k06.tr hk6b;have k16:=k16.tr hk6b
 clear hk6 hS6
 obtain ⟨d,hd⟩:∃ d,tz' (kidD x 1) m = d:=⟨_,rfl⟩
 rw [hd] at hRES;unfold tz' at hd;simp only [hV] at hd;refine fy' τok (σ:=Unit) (fun _=>[(1,.slice (some ⟨bx,ox,none⟩) (row x).length cx),(2,.slice am m.length cm),(3,pt b3),(8,iV (((x.n :: rows (x.ks.take 1)).length + (row (kidD x 1)).length:Nat):Int)),(12,.bool d)])
  (fun _ w'=>w6b = w') ?_ ?_
 ·refine ac' (fun g2=>?_) (fun g2=>?_)
  ·have g2:V = 2:=g2
   rw [decide_eq_true g2,Bool.true_or] at hd;subst hd;exact ⟨(),rfl,⟨rfl,rfl,rfl,rfl,rfl,trivial⟩,rfl⟩
  have g2:¬ V = 2:=g2;rw [decide_eq_false g2,Bool.false_or] at hd;refine ac' (fun g3=>?_) (fun g3=>?_)
  ·have g3:V = 1:=g3
   rw [decide_eq_true g3,Bool.true_and] at hd;subst hd;refine ⟨(),rfl,⟨rfl,rfl,rfl,rfl,?_,trivial⟩,rfl⟩;show some (Value.bool (decide _)) = _
   congr 3
   apply propext;omega
  ·have g3:¬ V = 1:=g3
   rw [decide_eq_false g3,Bool.false_and] at hd;subst hd;exact ⟨(),rfl,⟨rfl,rfl,rfl,rfl,rfl,trivial⟩,rfl⟩
 rintro ⟨⟩ _ rfl;have hS6:=hS.tr k06;obtain ⟨be,oe,ce,rfl,hat⟩:=hEn.at hen;obtain ⟨w1e,w2e,w3e,w4e,w5e,w6e,hcs,hki,hso,hpa,hin,hct,hty,hbo⟩:=dZ' hat;obtain ⟨act,cct,rfl,_,_⟩:=id hct;refine aV' τok ?_;refine am' τok (fun z=>Kp [] w6b z) ?_;refine rV τok (rg 0 11) 0 (mR 11 11) (kQd w6b) ?_;refine ldK ((h3.kp k16 (by simp)).cl rfl) ?_;refine ix 0 rfl (ag' _) ?_;refine ldK (hS6 _ _ _ (by simpa using hcx 1 _ rfl)) ?_;refine ix i hna (ai' hen) ?_;refine ldK (hS6 _ _ _ (hcs 4 _ rfl)) ?_;refine dV ?_;refine fO' τok ?_;have kd:Kp [] w6b (dr w6b):=(Kp.refl [] w6b).dr _;refine ix 0 rfl (ag' _) ?_;refine ldC (Sub.dr hS6 _) (by simpa using hcx 2 _ rfl) ?_;refine lp τok (σ:=Nat) (fun k=>[(1,.slice (some ⟨bx,ox,none⟩) (row x).length cx),(2,.slice am m.length cm),(3,pt b3),(8,iV ((1 + (rows (x.ks.take (2 + k))).length:Nat):Int)),(12,.bool d),(13,.slice act en.ctors.length cct),(77,iV x.n.b),(78,iV (k:Int))])
  (fun k w'=>k <= nb /\ Kp [] w6b w' /\ eS' B rc x.n.a d m k ((kidsT x).drop (2 + k)) = RES) (fun k=>nb - k) 0 rfl
  ⟨rfl,rfl,rfl,?_,rfl,rfl,rfl,rfl,trivial⟩ ⟨Nat.zero_le _,kd,hRES⟩ ?_
 ·show some (iV _) = some (iV ((1 + (rows (x.ks.take (2 + 0))).length:Nat):Int))
  congr 3
  rw [show 2 + 0 = 2 from rfl,q4];simp;omega
 clear hRES
 rintro k w6 ⟨hk,hk6,hres⟩;refine ac' (fun g2=>?_) (fun g2=>?_)
 ·have g2:(k:Int) < x.n.b:=g2
  obtain ⟨r1,r2,r3,r4⟩:=lI' hx.ok h11 (k:=2 + k) (by omega);have kF:=kF (2 + k) (by omega);have hs3:=hsub (2 + k);have hs4:=hsub (2 + k + 1);have hkp:=ag' (kidD x (2 + k));have hdrop:(kidsT x).drop (2 + k) = kidD x (2 + k) :: (kidsT x).drop (2 + (k + 1)):=by
   rw [hkk];obtain ⟨y,hy,hd⟩:=af' (l:=x.ks) (k:=2 + k) (by omega);rw [r1] at hy;obtain rfl:=Option.some.inj hy;exact hd
  rw [hdrop] at hres;simp only [eS'] at hres;refine ab' (cA' (hS6.tr hk6) hvx' hlen r3 r2 (by simp; omega)) ?_;rintro e w7 ⟨rfl,hk7⟩;have k07:=(k06.tr hk6).tr hk7;have k17:=(k16.tr hk6).tr hk7;obtain ⟨a9,c9,u9,hle9,hc9,vk,hsk,hTk⟩:=hvx'.cut r3;injection u9 with u1 _ u2
  subst u1 u2;have hle7:(x.n :: rows (x.ks.take (2 + k))).length + (row (kidD x (2 + k))).length <= cx:=by omega
  rw [hxD] at hres;refine br (fun g4=>?_) (fun g4=>?_)
  ·subst g4
   rw [Bool.true_and] at hres;refine ac' (fun g5=>?_) (fun g5=>?_)
   ·have g5:(k:Int) < en.ctors.length:=g5
    rw [decide_eq_true (show k < en.ctors.length by omega),if_pos rfl] at hres;obtain ⟨cc,hcc,_⟩:=af' (l:=en.ctors) (k:=k) (by omega);rw [List.getD_eq_getElem?_getD,hcc] at hres;simp only [Option.getD_some] at hres;obtain ⟨bc,oc,cc',e5,hca⟩:=hct.at hcc;injection e5 with u1 u2 u3
    subst u1 u3;obtain ⟨va,vo,hccs,hva,_⟩:=iX' hca;obtain ⟨aa',ca',rfl,_,_⟩:=hva;obtain ⟨ga,go,hgc⟩:=hGF.ct k cc hcc;have hla:cc.args.length <= 16:=by rw [hgc.args]; simp; exact hgc.la
    refine ix k rfl (ai' hcc) ?_;refine ldC (hS.tr k07) (hccs 0 _ rfl) ?_;refine am' τok (fun z=>Kp [] w7 z) ?_;refine rV τok (rg 0 7) 2 (mR 9 7) (kQd w7) ?_;refine aO' [iV B.vars,v1,.slice (some ⟨be,oe,none⟩) B.ents.length ce,iV B.nat,v3,v4] rfl (fun j v hj=>by rw [Nat.zero_add]; exact (h3.kp k17 (by simp)).cl hj) ?_;refine ch' τok rfl (x.n :: rows (x.ks.take (2 + k))).length _ vk (by simp; omega) rfl (by omega) hle7 hsk ?_;refine nV τok 7 1 (mR 9 8) ?_;refine ab' (gG' (w:=(dr w7)) hrc (Sub.dr (hS.tr k07) _) hlv' (kF.mono (Int.le_refl _)) hm (by omega) (by omega) hTk hvm' cc.args.length (by omega)) ?_;rintro e w8 ⟨rfl,hk8⟩;have hk8:Kp [] w7 w8:=hk8.rd;refine ⟨.inl hk8,?_⟩;refine rV τok [8] 0 (mR 9 9) hk8 ?_;refine dV ?_;refine br (fun g3=>?_) (fun g3=>?_)
    ·have g3:bu' rc cc.args.length (kidD x (2 + k)) m = false:=by simpa using g3
     rw [g3,Bool.false_and] at hres;subst hres;exact ⟨rfl,k07.tr hk8⟩
    ·have g3:bu' rc cc.args.length (kidD x (2 + k)) m = true:=by simpa using g3
     rw [g3,Bool.true_and] at hres;refine i6 ?_;refine ⟨k + 1,by omega,rfl,⟨rfl,rfl,rfl,?_,rfl,rfl,rfl,rfl,trivial⟩,by omega,(hk6.tr hk7).tr hk8,hres⟩;show some (iV _) = some (iV ((1 + (rows (x.ks.take (2 + (k + 1)))).length:Nat):Int))
     congr 3
     rw [show 2 + (k + 1) = 2 + k + 1 by omega,r4];simp;omega
   ·have g5:¬ (k:Int) < en.ctors.length:=g5
    rw [decide_eq_false (show ¬ k < en.ctors.length by omega)] at hres;rw [if_neg (by decide)] at hres;refine am' τok (fun z=>Kp [] w7 z) ?_;refine rV τok (rg 0 7) 2 (mR 9 7) (kQd w7) ?_;refine aO' [iV B.vars,v1,.slice (some ⟨be,oe,none⟩) B.ents.length ce,iV B.nat,v3,v4] rfl (fun j v hj=>by rw [Nat.zero_add]; exact (h3.kp k17 (by simp)).cl hj) ?_;refine ch' τok rfl (x.n :: rows (x.ks.take (2 + k))).length _ vk (by simp; omega) rfl (by omega) hle7 hsk ?_;refine nV τok 7 1 (mR 9 8) ?_;refine ab' (gG' (w:=(dr w7)) hrc (Sub.dr (hS.tr k07) _) hlv' (kF.mono (Int.le_refl _)) hm (by omega) (by omega) hTk hvm' 0 (by omega)) ?_;rintro e w8 ⟨rfl,hk8⟩;have hk8:Kp [] w7 w8:=hk8.rd;refine ⟨.inl hk8,?_⟩;refine rV τok [8] 0 (mR 9 9) hk8 ?_;refine dV ?_;refine br (fun g3=>?_) (fun g3=>?_)
    ·have g3:bu' rc 0 (kidD x (2 + k)) m = false:=by simpa using g3
     rw [g3,Bool.false_and] at hres;subst hres;exact ⟨rfl,k07.tr hk8⟩
    ·have g3:bu' rc 0 (kidD x (2 + k)) m = true:=by simpa using g3
     rw [g3,Bool.true_and] at hres;refine i6 ?_;refine ⟨k + 1,by omega,rfl,⟨rfl,rfl,rfl,?_,rfl,rfl,rfl,rfl,trivial⟩,by omega,(hk6.tr hk7).tr hk8,hres⟩;show some (iV _) = some (iV ((1 + (rows (x.ks.take (2 + (k + 1)))).length:Nat):Int))
     congr 3
     rw [show 2 + (k + 1) = 2 + k + 1 by omega,r4];simp;omega
  ·subst g4
   rw [Bool.false_and] at hres;rw [if_neg (by decide)] at hres;refine am' τok (fun z=>Kp [] w7 z) ?_;refine rV τok (rg 0 7) 2 (mR 9 7) (kQd w7) ?_;refine aO' [iV B.vars,v1,.slice (some ⟨be,oe,none⟩) B.ents.length ce,iV B.nat,v3,v4] rfl (fun j v hj=>by rw [Nat.zero_add]; exact (h3.kp k17 (by simp)).cl hj) ?_;refine ch' τok rfl (x.n :: rows (x.ks.take (2 + k))).length _ vk (by simp; omega) rfl (by omega) hle7 hsk ?_;refine nV τok 7 1 (mR 9 8) ?_;refine ab' (gG' (w:=(dr w7)) hrc (Sub.dr (hS.tr k07) _) hlv' (kF.mono (Int.le_refl _)) hm (by omega) (by omega) hTk hvm' 0 (by omega)) ?_;rintro e w8 ⟨rfl,hk8⟩;have hk8:Kp [] w7 w8:=hk8.rd;refine ⟨.inl hk8,?_⟩;refine rV τok [8] 0 (mR 9 9) hk8 ?_;refine dV ?_;refine br (fun g3=>?_) (fun g3=>?_)
   ·have g3:bu' rc 0 (kidD x (2 + k)) m = false:=by simpa using g3
    rw [g3,Bool.false_and] at hres;subst hres;exact ⟨rfl,k07.tr hk8⟩
   ·have g3:bu' rc 0 (kidD x (2 + k)) m = true:=by simpa using g3
    rw [g3,Bool.true_and] at hres;refine i6 ?_;refine ⟨k + 1,by omega,rfl,⟨rfl,rfl,rfl,?_,rfl,rfl,rfl,rfl,trivial⟩,by omega,(hk6.tr hk7).tr hk8,hres⟩;show some (iV _) = some (iV ((1 + (rows (x.ks.take (2 + (k + 1)))).length:Nat):Int))
    congr 3
    rw [show 2 + (k + 1) = 2 + k + 1 by omega,r4];simp;omega
 ·have g2:¬ (k:Int) < x.n.b:=g2
  rw [List.drop_eq_nil_of_le (by rw [hkk]; omega)] at hres;simp only [eS'] at hres;subst hres;exact ⟨rfl,k06.tr hk6⟩
end
end Go.Proofs.YtmpgcpemnjbgjaaGreat
