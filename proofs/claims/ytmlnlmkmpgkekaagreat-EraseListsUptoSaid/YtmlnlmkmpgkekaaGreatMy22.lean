import Derived.Test.YtmlnlmkmpgkekaaGreatMy21
set_option linter.unusedVariables false
set_option linter.unusedSimpArgs false
set_option maxRecDepth 100000
set_option maxHeartbeats 4000000
namespace Go.Proofs.YtmlnlmkmpgkekaaGreat
open Go.Wx Cd Tm Lv
def arG (B:BoT):Nat -> Ctx -> Tr -> Nat -> Except Int (Bool × Nat)
 | 0,_,_,_=>.error 5
 | g + 1,cx,x,n=>bdJ (dj' B cx x n) fun z n=>if z.n.op ≠ 4 then .ok (decide (z.n.op = 2),n) else arG B g (cx ++ [(kidD z 0,none)]) (kidD z 1) n
def nV' (B:BoT) (cx:Ctx) (x:Tr) (n:Nat):Except Int (Bool × Nat):=bdJ (arG B 300 cx x n) fun b n=>if b = true then .ok (true,n) else jy' B cx x n
section
variable {B:BoT} {cx:Ctx}
theorem qn':∀ (g:Nat) (cx:Ctx) (x:Tr) (n:Nat) q,arG B g cx x n = .ok q -> cx.length <= 256 /\ q.2 <= n
 | 0,cx,x,n,q,h=>by cases h
 | g + 1,cx,x,n,q,h=>by
  simp only [arG] at h;obtain ⟨p,hp,h⟩:=ak' h;obtain ⟨h1,h2,h3⟩:=dk' hp;split at h
  ·injection h with h
   subst h;exact ⟨h1,h3⟩
  ·have:=qn' g _ _ _ _ h
   exact ⟨h1,by omega⟩
end
section
variable {w:World} {X:List Nat} {B:BoT} {be n:Nat} {va:Value}
theorem sm' (hB:GoodB B) {cx:Ctx} (hcx:CxOk B cx) (hcl:cx.length <= 260) (hX:XL X w) (hbe:be ∈ X) (hJ:EraC (Im X w) w be B n va) (hn:n <= 100000) {x:Tr} (hx:Ft (QB B) (cx.length:Int) x) {vc v:Value} (hc:SV rBd (Im X w) (cx.map bdR) vc) (hv:TmV (Im X w) x v) :
  CC 71 #[pt be,vc,v] w (ErP (fun w' b u=>u = .bool b) X w be B va (arG B 300 cx x n)):=by
 refine oF Tryz.func71 ?_;obtain ⟨RES,hRES⟩:∃ r,arG B 300 cx x n = r:=⟨_,rfl⟩
 rw [hRES];obtain ⟨av,cv,rfl,_,_⟩:=id hv;obtain ⟨ac,cc,rfl,_,_⟩:=id hc;refine cO (args:=[_,_,_]) 34 [.tmp 6] τok Tryz.func71 ?_;refine lp τok (σ:=Nat × Ctx × Tr × Nat × Value × Value) (fun q=>[(0,pt be),(1,q.2.2.2.2.1),(2,q.2.2.2.2.2)])
  (fun q w'=>arG B q.1 q.2.1 q.2.2.1 q.2.2.2.1 = RES /\ 262 <= q.1 + q.2.1.length /\ CxOk B q.2.1 /\ q.2.1.length <= 261 /\ EraC (Im X w') w' be B q.2.2.2.1 va /\ q.2.2.2.1 <= 100000 /\ Ft (QB B) (q.2.1.length:Int) q.2.2.1 /\ SV rBd (Im X w') (q.2.1.map bdR) q.2.2.2.2.1 /\ TmV (Im X w') q.2.2.1 q.2.2.2.2.2 /\ Kp [be] w w') (fun q=>q.1) (300,cx,x,n,_,_) rfl ⟨rfl,rfl,rfl,trivial⟩ ⟨hRES,by show 262 <= 300 + cx.length; omega,hcx,by show cx.length <= 261; omega,hJ,hn,hx,hc,hv,Kp.refl _ _⟩ ?_
 rintro ⟨g,c1,x1,n1,vc1,v1⟩ w1 ⟨hr,hg,hcx1,hcl1,hJ1,hn1,hx1,hc1,hv1,k01⟩;simp only at hr hg hcx1 hcl1 hJ1 hn1 hx1 hc1 hv1;obtain ⟨g,rfl⟩:∃ g',g = g' + 1:=⟨g - 1,by omega⟩
 simp only [arG] at hr;have hX1:=xU hX k01;obtain ⟨av1,cv1,rfl,_,_⟩:=id hv1;obtain ⟨ac1,cc1,rfl,_,_⟩:=id hc1;refine ab' (jx' hB hcx1 (by omega) hX1 hbe hJ1 hx1 hc1 hv1) ?_;rintro e w2 he;rcases he.cs with ⟨er,hw,rfl,hk⟩ | ⟨⟨z,n2⟩,u,hw,rfl,hu,hJ2,hk⟩
 ·rw [hw] at hr
  obtain rfl:Except.error er = RES:=hr;exact ⟨rfl,k01.tq hk⟩
 rw [hw] at hr;have hr:(if z.n.op ≠ 4 then .ok (decide (z.n.op = 2),n2) else arG B g (c1 ++ [(kidD z 0,none)]) (kidD z 1) n2) = RES:=hr;have k02:Kp [be] w w2:=k01.tq hk;obtain ⟨hl256,hn2,hzF⟩:=cQ' hB hcx1 hx1 hw;have hzF:Ft (QB B) (c1.length:Int) z:=hzF;have hn2:n2 <= n1:=hn2;have hX2:=xU hX k02;have hu':TmV (Im X w2) z u:=hu;obtain ⟨bz,oz,cz,rfl,_,_,_,hcz⟩:=hu'.hd;refine ix 0 rfl (ag' _) ?_;refine ldC (Im.sub X w2) (by simpa using hcz 0 _ rfl) ?_;refine ac' (fun g4=>?_) (fun g4=>?_)
 ·have g4:z.n.op ≠ 4:=g4
  rw [if_pos g4] at hr;subst hr;refine ix 0 rfl (ag' _) ?_;refine ldC (Im.sub X w2) (by simpa using hcz 0 _ rfl) ?_;exact ⟨⟨_,rfl,rfl,hJ2⟩,k02⟩
 have g4:¬ z.n.op ≠ 4:=g4;rw [if_neg g4] at hr;have g4:z.n.op = 4:=by omega
 obtain ⟨_,k0,k1⟩:=bR' hzF (.inl g4);obtain ⟨e1,e2,e3,ok0⟩:=ea' hzF.ok (.inl g4);refine ab' (cy' (Im.sub X w2) hu' hzF.len e1 ok0 (i:=1) (by simp)) ?_;rintro e w3 ⟨rfl,hk3⟩;have tr3:∀ b o v,Im X w2 b o v -> Im X w3 b o v:=fun b o v h=>h.tr hk3;obtain ⟨a7,c7,q7,hle7,hc7,v7,hs7,hT7⟩:=(hu'.mono tr3).cut e1;injection q7 with q1 _ q2
 subst q1 q2;obtain ⟨a8,c8,q8,hle8,v8,hs8,hT8⟩:=(hu'.mono tr3).cutT e2;injection q8 with q1 _ q2
 subst q1 q2;have k03:Kp [be] w w3:=k02.trans (hk3.weak (by simp)) fun x hx _=>hx;obtain ⟨a9,c9,rfl,_,_⟩:=id hT7;refine gE' τok rfl 1 (1 + (row (kidD z 0)).length) _ rfl (by simp) (by omega) (by simp at hle7; omega) hs7 ?_;refine fill [.slice a9 (row (kidD z 0)).length c9,.slice none 0 0] rfl ?_;refine new fun b4 w4 hb4 h4 hs4 hk4=>?_;have hX3:=xU hX2 hk3;have hb4X:b4 ∉ X:=fun hb=>by have:=hX3 b4 hb; rw [hb4] at this; exact Nat.lt_irrefl _ this
 have k24:Kp [] w2 w4:=hk3.tr hk4;have tr4:∀ b o v,Im X w3 b o v -> Im X w4 b o v:=fun b o v h=>h.tr hk4;have hX4:=xU hX3 hk4;have hc2:SV rBd (Im X w2) (c1.map bdR) (.slice ac1 (c1.map bdR).length cc1):=hc1.mono fun b o v h=>Im.kb hk hbe b o v h;have hc4:SV rBd (Im X w4) (c1.map bdR) (.slice ac1 (c1.map bdR).length cc1):=(hc2.mono tr3).mono tr4;have hlm:(c1.map bdR).length = c1.length:=by simp
 refine ab' (no' (C:=Im X w4) (Im.sub X w4) hc4 (pN' h4 hb4X (hT7.mono tr4)) (by simp) (by omega) (by simp)) ?_;rintro e w5 ⟨⟨v5,rfl,hv5⟩,hk5⟩;obtain ⟨a10,c10,rfl,_,_⟩:=id hT8;refine fX' τok rfl (1 + (row (kidD z 0)).length) (.slice a10 (row (kidD z 1)).length c10) (by simp) (by simp at hle8; omega) (by rw [<- hs8]; simp [Nat.add_comm]) ?_;have k25:Kp [] w2 w5:=k24.tr hk5;have up25:∀ b o v,Im X w2 b o v -> Im X w5 b o v:=fun b o v h=>h.tr k25;have h5:SV rBd (Im X w5) ((c1 ++ [(kidD z 0,none)]).map bdR) v5:=by
  rw [List.map_append];exact hv5.mono fun b o v h=>Im.cn hX4 hk5 b o v h
 have tr35:∀ b o v,Im X w3 b o v -> Im X w5 b o v:=fun b o v h=>h.tr (hk4.tr hk5);have hl':(c1 ++ [(kidD z 0,none)]).length = c1.length + 1:=by simp
 have hcx2:CxOk B (c1 ++ [(kidD z 0,none)]):=hcx1.snoc k0 fun x hx=>by cases hx
 have k1:Ft (QB B) ((c1 ++ [(kidD z 0,none)]).length:Int) (kidD z 1):=by rw [hl']; exact k1.mono (by omega)
 exact ⟨(g,c1 ++ [(kidD z 0,none)],kidD z 1,n2,v5,_),Nat.lt_succ_self _,rfl,⟨rfl,rfl,rfl,trivial⟩,hr,by show 262 <= g + (c1 ++ [(kidD z 0,none)]).length; omega,hcx2,by show (c1 ++ [(kidD z 0,none)]).length <= 261; omega,(hJ2.mono up25).kp k25 (by simp),by show n2 <= 100000; omega,k1,h5,hT8.mono tr35,k02.trans (k25.weak (by simp)) fun x hx _=>hx⟩
theorem qo' (hB:GoodB B) {cx:Ctx} (hcx:CxOk B cx) (hcl:cx.length <= 260) (hX:XL X w) (hbe:be ∈ X) (hJ:EraC (Im X w) w be B n va) (hn:n <= 100000) {x:Tr} (hx:Ft (QB B) (cx.length:Int) x) {vc v:Value} (hc:SV rBd (Im X w) (cx.map bdR) vc) (hv:TmV (Im X w) x v) :
  CC 38 #[pt be,vc,v] w (ErP (fun w' b u=>u = .bool b) X w be B va (nV' B cx x n)):=by
 refine oF Tryz.func38 ?_;obtain ⟨RES,hRES⟩:∃ r,nV' B cx x n = r:=⟨_,rfl⟩
 rw [hRES];unfold nV' at hRES;obtain ⟨av,cv,rfl,_,_⟩:=id hv;obtain ⟨ac,cc,rfl,_,_⟩:=id hc;refine cO (args:=[_,_,_]) 17 [.tmp 6] τok Tryz.func38 ?_;refine ab' (sm' hB hcx hcl hX hbe hJ hn hx hc hv) ?_;rintro e w2 he;rcases he.cs with ⟨er,hw,rfl,hk⟩ | ⟨⟨b,n2⟩,u,hw,rfl,hu,hJ2,hk⟩
 ·rw [hw] at hRES
  obtain rfl:Except.error er = RES:=hRES;exact ⟨rfl,hk⟩
 rw [hw] at hRES;have hu:u = .bool b:=hu;subst hu;cases b with
 | true =>
  obtain rfl:Except.ok (true,n2) = RES:=hRES;exact ⟨⟨_,rfl,rfl,hJ2⟩,hk⟩
 | false =>
  have hRES:jy' B cx x n2 = RES:=hRES;have hX2:=xU hX hk;have up:∀ b o v,Im X w b o v -> Im X w2 b o v:=fun b o v h=>Im.kb hk hbe b o v h;refine ab' (qm' hB hcx hcl hX2 hbe hJ2 hx (hc.mono up) (hv.mono up)) ?_;rintro e w3 he;rcases he.cs with ⟨er,hw3,rfl,hk3⟩ | ⟨⟨b3,n3⟩,u3,hw3,rfl,hu3,hJ3,hk3⟩
  ·rw [hw3] at hRES
   obtain rfl:Except.error er = RES:=hRES;exact ⟨rfl,hk.tq hk3⟩
  ·have hu3:u3 = .bool b3:=hu3
   subst hu3;rw [hw3] at hRES;obtain rfl:Except.ok (b3,n3) = RES:=hRES;exact ⟨⟨_,rfl,rfl,hJ3⟩,hk.tq hk3⟩
end
theorem sn' (n:Nat) (hn:n <= 1000000) (w:World) :
  CC 127 #[.slice none 0 0,iV (n:Int)] w (fun e w'=>∃ v,e = .returned v /\ Own rNd 42 w.heap.size w' v [] /\ Kp [] w w'):=by
 refine oF Tryz.func127 ?_;refine cO (args:=[_,_]) 27 [.tmp 4] τok Tryz.func127 ?_;refine qL' rfl ?_;refine i6 ?_;refine i6 ?_;refine ac' (fun g=>?_) (fun g=>?_);rotate_left
 ·exact ⟨_,rfl,Own.nil _ _ (KJ _),Kp.refl _ _⟩
 have h0:0 < n:=by
  have g:(0:Int) < (n:Int) - ((0:Nat) - (0:Nat):Int):=g;omega
 refine qL' rfl ?_;refine iJ' τok rfl 0 (.slice none 0 0) rfl (KJ _) rfl ?_;have e:((n:Int) - ((0:Nat) - (0:Nat):Int)) = (n:Int):=by omega
 rw [e];refine apZ (R:=rNd) rfl rfl (by decide) rfl (by decide) n h0 hn fun B G w1 hB hG hO hk=>?_;refine iJ' τok rfl 0 _ rfl (KV _) bT' ?_;exact ⟨_,rfl,hO,hk⟩
theorem nW' {D:Mem} {w:World} (hD:Sub D w) (ls:List (List Nd)) (a:Option Addr) (cap:Nat) (hl:Sl (rSl rNd) D a ls) (hlen:ls.length <= 100000) (hsum:(ls.map List.length).sum <= 1000000) :
  CC 73 #[.slice a ls.length cap] w (fun e w'=>∃ v,e = .returned v /\ Own rNd 42 w.heap.size w' v ls.flatten /\ Kp [] w w'):=by
 refine oF Tryz.func73 ?_;refine cO (args:=[_]) 36 [.tmp 2] τok Tryz.func73 ?_;have hDl:=hD.lt;have hpart:∀ k,((ls.take k).map List.length).sum + ((ls.drop k).map List.length).sum = (ls.map List.length).sum:=fun k=>by
  rw [<- List.sum_append,<- List.map_append,List.take_append_drop]
 refine lp τok (σ:=Nat) (fun k=>[(0,.slice a ls.length cap),(3,iV (((ls.take k).map List.length).sum:Nat)),(9,.slice a ls.length cap),(10,iV ls.length),(11,iV k)]) (fun k w'=>k <= ls.length /\ w' = w) (fun k=>ls.length - k) 0 rfl
  ⟨rfl,rfl,rfl,rfl,rfl,trivial⟩ ⟨KV _,rfl⟩ ?_
 rintro k w1 ⟨hk,rfl⟩;refine ac' (fun g1=>?_) (fun g1=>?_)
 ·have hlt:k < ls.length:=by omega
  obtain ⟨x,hx,hd⟩:=af' hlt;have e1:((ls.take (k + 1)).map List.length).sum = ((ls.take k).map List.length).sum + x.length:=by rw [aj' hx]; simp
  have hp:=hpart (k + 1);obtain ⟨b,o,rfl,ax,cx,hcell,hsl⟩:=hl.sl hx;refine ix k rfl hlt ?_;refine ldC hD hcell ?_;refine i6 ?_;refine i6 ?_;refine ⟨k + 1,by omega,rfl,⟨rfl,?_,rfl,rfl,rfl,trivial⟩,hlt,rfl⟩;rw [e1]
  rfl
 have e2:ls.take k = ls:=JG (by omega);rw [e2];refine ab' (sn' _ hsum w1) ?_;rintro e w2 ⟨v2,rfl,hO2,hk2⟩;refine lp τok (σ:=Nat × Value) (fun q=>[(6,q.2),(25,.slice a ls.length cap),(26,iV ls.length),(27,iV q.1)]) (fun q w'=>q.1 <= ls.length /\ Own rNd 42 w1.heap.size w' q.2 (ls.take q.1).flatten /\ Kp [] w1 w') (fun q=>ls.length - q.1) (0,v2) rfl
  ⟨rfl,rfl,rfl,rfl,trivial⟩ ⟨KV _,by simpa using hO2,hk2⟩ ?_
 clear hO2
 rintro ⟨k,v⟩ w3 ⟨hk,hO,hk3⟩;simp only at hk hO;refine ac' (fun g2=>?_) (fun g2=>?_)
 ·have hlt:k < ls.length:=by omega
  obtain ⟨x,hx,hd⟩:=af' hlt;have e1:(ls.take (k + 1)).flatten = (ls.take k).flatten ++ x:=by rw [aj' hx]; simp
  have hp:=hpart (k + 1);have e3:((ls.take (k + 1)).map List.length).sum = (ls.take k).flatten.length + x.length:=by rw [<- List.length_flatten,e1]; simp
  obtain ⟨b,o,rfl,ax,cx,hcell,hsl⟩:=hl.sl hx;refine ix k rfl hlt ?_;refine ldC (hD.tr hk3) hcell ?_;refine hO.apF τok rfl rfl (by decide) bi' (hD.tr hk3) x hsl (by omega) (by unfold maxLen; omega) fun v' w4 hO4 hk4 _=>?_;refine i6 ?_;refine ⟨(k + 1,v'),by simp only; omega,rfl,⟨rfl,rfl,rfl,rfl,trivial⟩,hlt,?_,hk3.own hk4 hO⟩;rw [e1];exact hO4
 ·rw [JG (by omega)] at hO
  exact ⟨v,rfl,hO,hk3⟩
theorem dm' {D:Mem} {w:World} (hD:Sub D w) {op ia ib:Int} (h1:I64 op) (h2:I64 ia) (h3:I64 ib) (ls:List (List Nd)) (a:Option Addr) (cap:Nat) (hl:Sl (rSl rNd) D a ls) (hlen:ls.length <= 100000) (hsum:(ls.map List.length).sum <= 1000000) :
  CC 40 #[iV op,iV ia,iV ib,.slice a ls.length cap] w (fun e w'=>(∃ v,e = .returned v /\ IsRw (⟨op,ia,ib⟩ :: ls.flatten) w w' v) /\ Kp [] w w'):=by
 refine oF Tryz.func40 ?_;refine cO (args:=[_,_,_,_]) 17 [.tmp 8] τok Tryz.func40 ?_;refine fill [iV op,iV ia,iV ib] rfl ?_;refine new fun b1 w1 hb1 hB1 hs1 hk1=>?_;refine ab' (nW' (hD.tr hk1) ls a cap hl hlen hsum) ?_;rintro e w2 ⟨v2,rfl,hO2,hk2⟩;have hO1:Own rNd 42 w.heap.size w2 (.slice (some ⟨b1,0,none⟩) 1 1) [⟨op,ia,ib⟩] :=
  ⟨⟨[[iV op,iV ia,iV ib]],el' (n:=1) (hB1.kp hk2 (by simp)) (by omega) rfl (by simp [maxLen]),⟨rfl,h1,h2,h3⟩,trivial⟩,(hk1.tr hk2).size⟩
 have hfl:ls.flatten.length <= 1000000:=by rw [List.length_flatten]; exact hsum
 obtain ⟨a3,c3,rfl,hs3⟩:=hO2.den (by omega);refine hO1.apF τok rfl rfl (by decide) bi' (New.sub _ _) ls.flatten hs3 (by simp only [JV,JU]; omega) (by simp only [JV,JU,maxLen]; omega) fun v4 w4 hO4 hk4 _=>?_;have k04:Kp [] w w4:=(hk1.tr hk2).own hk4 hO1;exact ⟨⟨v4,rfl,Own.isRw hO4 (by simp; omega)⟩,k04⟩
abbrev RcE:=Ctx -> Tr -> Nat -> Except Int (List Nd × Nat)
def qO':List Nd:=[⟨22,0,0⟩]
def dn':Nat -> List Nd -> List Nd
 | 0,r=>r
 | k + 1,r=>dn' k (⟨24,0,0⟩ :: (r ++ qO'))
def ek' (rc:RcE) (cx:Ctx):List Tr -> Nat -> Except Int (List (List Nd) × Nat)
 | [],n=>.ok ([],n)
 | y :: r,n=>bdJ (rc cx y n) fun a n=>bdJ (ek' rc cx r n) fun l n=>.ok (a :: l,n)
def kO' (B:BoT) (rc:RcE) (cx:Ctx) (x:Tr) (n:Nat):Except Int (List Nd × Nat) :=
 if (tr (bm' B x.n.a).sort).n.a = 0 then
  if x.n.b = 0 then .ok (qO',n) else bdJ (rc cx (kidD x 2) n) fun r n=>.ok (dn' (ctD B x.n.a 0).args.length r,n)
 else bdJ (ek' rc cx ((kidsT x).drop 1) n) fun l n=>.ok (⟨28,x.n.a,x.n.b⟩ :: l.flatten,n)
def bodiesT (x:Tr):List Tr:=(List.range x.n.b.toNat).map fun i=>kidD x (2 * i + 1)
def vJ' (rc:RcE) (cx:Ctx) (x:Tr) (n:Nat):Except Int (List Nd × Nat) :=
 bdJ (ek' rc (cx ++ aD' x) (bodiesT x) n) fun l n=>.ok (⟨29,x.n.a,x.n.b⟩ :: l.flatten,n)
def np' (B:BoT) (rc:RcE) (cx:Ctx) (x:Tr) (n:Nat):Except Int (List Nd × Nat) :=
 if x.n.op = 1 then .ok ([⟨21,x.n.a,0⟩],n)
 else if x.n.op = 8 then .ok ([⟨26,x.n.a,0⟩],n)
 else if x.n.op = 10 then .ok ([⟨27,x.n.a,x.n.b⟩],n)
 else if x.n.op = 5 then bdJ (rc (cx ++ [(kidD x 0,none)]) (kidD x 1) n) fun r n=>.ok (⟨23,0,0⟩ :: r,n)
 else if x.n.op = 6 then bdJ (rc cx (kidD x 0) n) fun r n=>bdJ (rc cx (kidD x 1) n) fun s n=>.ok (⟨24,0,0⟩ :: (r ++ s),n)
 else if x.n.op = 7 then bdJ (rc cx (kidD x 1) n) fun r n=>bdJ (rc (cx ++ [(kidD x 0,some (kidD x 1))]) (kidD x 2) n) fun s n=>.ok (⟨25,0,0⟩ :: (r ++ s),n)
 else if x.n.op = 11 then kO' B rc cx x n
 else if x.n.op = 12 then vJ' rc cx x n
 else .ok (qO',n)
def te' (B:BoT) (rc:RcE) (cx:Ctx) (x:Tr) (n:Nat):Except Int (List Nd × Nat) :=
 bdJ (cz' B cx x (n:Int)) fun t n=>bdJ (nV' B cx t n) fun b n=>if b = true then .ok (qO',n) else np' B rc cx x n
def erG (B:BoT):Nat -> RcE
 | 0,_,_,_=>.error 5
 | g + 1,cx,x,n=>te' B (erG B g) cx x n
theorem ff':∀ (x:Tr),(rows (kidsT x)).length + 1 <= (row x).length
 | .mk n ks=>by
  simp only [kidsT,row,JV];split
  ·simp [rows]
  split
  ·have:∀ (l:List Tr),(rows (l.flatMap (·.ks))).length <= (rows l).length:=by
    intro l
    induction l with
    | nil=>simp [rows]
    | cons y l ih =>
     obtain ⟨m,s⟩:=y;have e:((Tr.mk m s :: l).flatMap (·.ks)) = s ++ l.flatMap (·.ks):=rfl;rw [e,aA'];simp only [rows,row,JK,JV];omega
   have:=this ks;omega
  ·omega
theorem fg':∀ {l:List Tr} {i:Nat} {y:Tr},l[i]? = some y -> (rows (l.take i)).length + ((row y).length + (rows (l.drop (i + 1))).length) = (rows l).length
 | z :: l,0,y,h=>by
  obtain rfl:z = y:=by simpa using h
  simp [rows]
 | z :: l,i + 1,y,h=>by
  have:=fg' (l:=l) (i:=i) (y:=y) (by simpa using h);simp only [List.take_succ_cons,List.drop_succ_cons,rows,JK];omega
theorem kP':∀ (k:Nat) (r:List Nd),(dn' k r).length = r.length + 2 * k
 | 0,r=>rfl
 | k + 1,r=>by
  simp only [dn',kP' k,JV,JK,qO',JU];omega
def EOk (q:List Nd × Nat) (x:Tr) (n:Nat):Prop:=q.1.length <= 34 * (row x).length /\ q.2 <= n
theorem jz' {rc:RcE} {cx:Ctx}:∀ (l:List Tr) (n:Nat) q,(∀ y ∈ l,∀ n q,rc cx y n = .ok q -> EOk q y n) -> ek' rc cx l n = .ok q -> q.1.length = l.length /\ q.1.flatten.length <= 34 * (rows l).length /\ q.2 <= n
 | [],n,q,_,h=>by
  simp only [ek'] at h;injection h with h
  subst h;simp
 | y :: r,n,q,hr,h=>by
  simp only [ek'] at h;obtain ⟨a,ha,h⟩:=ak' h;obtain ⟨l,hl,h⟩:=ak' h;injection h with h
  subst h;obtain ⟨a1,a2⟩:=hr y (by simp) _ _ ha;obtain ⟨l1,l2,l3⟩:=jz' r _ _ (fun z hz=>hr z (by simp [hz])) hl;simp only [JV,List.flatten_cons,JK,rows];omega
theorem kQ' (n:Nat):aI' (n:Int) <= n:=by unfold aI'; omega
theorem jA' {B:BoT} (hB:GoodB B) {cx:Ctx} {x:Tr} {n:Nat} {q:Bool × Nat} (h:nV' B cx x n = .ok q):q.2 <= n:=by
 obtain ⟨p,hp,h⟩:=ak' h;have h1:=(qn' _ _ _ _ _ hp).2;split at h
 ·injection h with h
  subst h;exact h1
 ·obtain ⟨r,hr,h⟩:=ak' h
  injection h with h
  subst h;have h2:=(aJ' hB (aN' hB GJ) hr).2.1;have h3:=kQ' p.2;exact KQ h2 (KQ h3 h1)
theorem lV' {B:BoT} (hB:GoodB B) {cx:Ctx} {x:Tr} {n:Nat} {q:Tr × Nat} (hx:Ok .tm x) (h:cz' B cx x (n:Int) = .ok q) (h57:x.n.op = 5 \/ x.n.op = 7 \/ x.n.op = 12):cx.length <= 256:=by
 unfold cz' at h;obtain ⟨g,hg⟩:∃ g,GJ = g + 1:=⟨GJ - 1,by have:=sb'; omega⟩
 rw [hg] at h;simp only [ci'] at h;unfold dL' at h;rcases h57 with h5 | h5 | h5
 ·simp only [h5] at h
  rw [if_neg (by decide),if_neg (by decide),if_neg (by decide),if_neg (by decide),if_neg (by decide),if_neg (by decide),if_pos trivial] at h;obtain ⟨p,hp,_⟩:=ak' h;exact (aJ' hB (aN' hB g) hp).1
 ·simp only [h5] at h
  rw [if_neg (by decide),if_neg (by decide),if_neg (by decide),if_neg (by decide),if_neg (by decide),if_neg (by decide),if_neg (by decide),if_neg (by decide),if_pos trivial] at h;obtain ⟨p,hp,_⟩:=ak' h;exact (aJ' hB (aN' hB g) hp).1
 ·simp only [h5] at h
  rw [if_neg (by decide),if_neg (by decide),if_neg (by decide),if_neg (by decide),if_neg (by decide),if_neg (by decide),if_neg (by decide),if_neg (by decide),if_neg (by decide),if_neg (by decide)] at h;obtain ⟨p,hp,_⟩:=ak' h;have hl:=aR' hx h5;obtain ⟨b,hb⟩:∃ b,x.n.b.toNat = b + 1:=⟨x.n.b.toNat - 1,by omega⟩
  rw [hb] at hp;simp only [fP'] at hp;obtain ⟨r,hr,_⟩:=ak' hp;exact (aJ' hB (aN' hB g) hr).1
theorem nX' {B:BoT} {cx:Ctx} {x:Tr} {n:Nat} {q:Tr × Nat} (h:cz' B cx x (n:Int) = .ok q) (h11:x.n.op = 11):((kidsT x).drop 2).length = (bm' B x.n.a).ctors.length:=by
 unfold cz' at h;obtain ⟨g,hg⟩:∃ g,GJ = g + 1:=⟨GJ - 1,by have:=sb'; omega⟩
 rw [hg] at h;simp only [ci'] at h;unfold dL' at h;simp only [h11] at h;rw [if_neg (by decide),if_neg (by decide),if_neg (by decide),if_neg (by decide),if_neg (by decide),if_neg (by decide),if_neg (by decide),if_neg (by decide),if_neg (by decide),if_pos trivial] at h;unfold fO' at h;simp only at h;obtain ⟨p,hp,h⟩:=ak' h;obtain ⟨z,hz,h⟩:=ak' h;split at h
 ·cases h
 split at h
 ·cases h
 ·rename_i g
  omega
theorem vK' {l:List Tr} (h:l.length = 2):l = [l.getD 0 (varX 0),l.getD 1 (varX 0)]:=by
 match l,h with
 | [a,b],_=>rfl
theorem wE' {l:List Tr} (h:l.length = 3):l = [l.getD 0 (varX 0),l.getD 1 (varX 0),l.getD 2 (varX 0)]:=by
 match l,h with
 | [a,b,c],_=>rfl
theorem fh' (x:Tr) (k:Nat):kidD x k = (kidsT x).getD k (varX 0):=rfl
theorem jB':∀ (b:Nat) (l:List Tr),l.length = 2 * b -> (rows ((List.range b).map fun i=>l.getD (2 * i + 1) (varX 0))).length <= (rows l).length
 | 0,l,h=>by simp [rows]
 | b + 1,u :: v :: l,h=>by
  have hl:l.length = 2 * b:=by simp only [JV] at h; omega
  have:=jB' b l hl;rw [List.range_succ_eq_map,List.map_cons,List.map_map];have e:(List.range b).map ((fun i=>(u :: v :: l).getD (2 * i + 1) (varX 0)) ∘ Nat.succ) = (List.range b).map fun i=>l.getD (2 * i + 1) (varX 0):=by
   apply List.map_congr_left;intro i _;show (u :: v :: l).getD (2 * (i + 1) + 1) (varX 0) = _;rw [show 2 * (i + 1) + 1 = (2 * i + 1) + 1 + 1 by omega]
   rfl
  rw [e];show (rows (v :: _)).length <= _;simp only [rows,JK];omega
 | b + 1,[],h=>by simp at h
 | b + 1,[_],h=>by simp at h; omega
theorem nq' {B:BoT} (hB:GoodB B) {a:Int} (ha:dy' B B.ents.length a = true):(ctD B a 0).args.length <= 16:=by
 obtain ⟨i,x,s,ps,qi,rfl,hi,hx,he,hF⟩:=hB.fam ha (KJ _);unfold ctD;rw [he]
 match hc:x.ctors with
 | []=>exact KV _
 | c :: r =>
  obtain ⟨ga,go,hg⟩:=hF.ct 0 c (by rw [hc]; rfl);show c.args.length <= 16;rw [hg.args,List.length_map];exact hg.la
section
variable {B:BoT}
theorem qp' (hB:GoodB B) {rc:RcE} {N:Int} {cx:Ctx} {x:Tr} {n:Nat} {q:List Nd × Nat} (hx:Ft (QB B) N x) (hr:∀ (M:Int) cx y n q,Ft (QB B) M y -> rc cx y n = .ok q -> EOk q y n) (h:np' B rc cx x n = .ok q):EOk q x n:=by
 have hpos:=ag' x;have hkr:=ff' x;unfold np' at h;have leaf:∀ m:Nd,Except.ok ([m],n) = (Except.ok q:Except Int (List Nd × Nat)) -> EOk q x n:=fun m h=>by
  injection h with h
  subst h;exact ⟨by show 1 <= _; omega,KJ _⟩
 split at h
 ·exact leaf _ h
 split at h
 ·exact leaf _ h
 split at h
 ·exact leaf _ h
 split at h
 ·rename_i g
  obtain ⟨k1,k2,k3⟩:=bR' hx (.inr g);have e:=vK' k1;rw [e] at hkr;simp only [rows,JK,<- fh'] at hkr;obtain ⟨p,hp,h⟩:=ak' h;injection h with h
  subst h;obtain ⟨h1,h2⟩:=hr _ _ _ _ _ k3 hp;exact ⟨by simp only [JV]; omega,h2⟩
 split at h
 ·rename_i g
  obtain ⟨k1,k2,k3⟩:=gl' hx g;have e:=vK' k1;rw [e] at hkr;simp only [rows,JK,<- fh'] at hkr;obtain ⟨p,hp,h⟩:=ak' h;obtain ⟨r,hr',h⟩:=ak' h;injection h with h
  subst h;obtain ⟨h1,h2⟩:=hr _ _ _ _ _ k2 hp;obtain ⟨h3,h4⟩:=hr _ _ _ _ _ k3 hr';exact ⟨by simp only [JV,JK]; omega,by simp only; omega⟩
 split at h
 ·rename_i g
  obtain ⟨k1,k2,k3,k4⟩:=gm' hx g;have e:=wE' k1;rw [e] at hkr;simp only [rows,JK,<- fh'] at hkr;obtain ⟨p,hp,h⟩:=ak' h;obtain ⟨r,hr',h⟩:=ak' h;injection h with h
  subst h;obtain ⟨h1,h2⟩:=hr _ _ _ _ _ k3 hp;obtain ⟨h3,h4⟩:=hr _ _ _ _ _ k4 hr';exact ⟨by simp only [JV,JK]; omega,by simp only; omega⟩
 split at h
 ·rename_i g
  obtain ⟨k1,k2,k3,k4⟩:=eb' hx g;unfold kO' at h;split at h
  ·split at h
   ·exact leaf _ h
   ·rename_i g0
    obtain ⟨p,hp,h⟩:=ak' h;injection h with h
    subst h;have hk2:(kidsT x)[2]? = some (kidD x 2):=by
     rw [fh',List.getD_eq_getElem?_getD,List.getElem?_eq_getElem (by omega)]
     rfl
    have hm:=fg' hk2;obtain ⟨h1,h2⟩:=hr _ _ _ _ _ (k4 _ (JQ hk2)) hp;have hq:QB B x.n:=by
     obtain ⟨m,ks⟩:=x;exact hx.node
    have ha:=nq' hB (hL' hq (.inr g));exact ⟨by simp only [kP']; omega,h2⟩
  ·obtain ⟨p,hp,h⟩:=ak' h
   injection h with h
   subst h;obtain ⟨h1,h2,h3⟩:=jz' _ _ _ (fun y hy n q hq=>hr N _ _ _ _ (k4 y (List.drop_subset _ _ hy)) hq) hp;have hd:(rows ((kidsT x).drop 1)).length <= (rows (kidsT x)).length:=by
    have:=congrArg (fun l=>(rows l).length) (List.take_append_drop 1 (kidsT x));simp only [aA',JK] at this;omega
   exact ⟨by simp only [JV]; omega,h3⟩
 split at h
 ·rename_i g
  have hfk:=bQ' hx.ok g;have hfl:=aR' hx.ok g;unfold vJ' at h;obtain ⟨p,hp,h⟩:=ak' h;injection h with h
  subst h;have hod:=jB' x.n.b.toNat (kidsT x) (by omega);have hin:∀ y ∈ bodiesT x,Ft (QB B) (N + x.n.b) y:=fun y hy=>by
   obtain ⟨i,hi,rfl⟩:=List.mem_map.1 hy;have hi:=List.mem_range.1 hi;exact hx.kidN (2 * i + 1) (by omega) (by simp [kb,bf',g])
  obtain ⟨h1,h2,h3⟩:=jz' _ _ _ (fun y hy n q hq=>hr _ _ _ _ _ (hin y hy) hq) hp;have hod:(rows (bodiesT x)).length <= (rows (kidsT x)).length:=hod;exact ⟨by simp only [JV]; omega,h3⟩
 ·exact leaf _ h
theorem tf' (hB:GoodB B):∀ (g:Nat) (N:Int) cx x n q,Ft (QB B) N x -> erG B g cx x n = .ok q -> EOk q x n
 | 0,N,cx,x,n,q,hx,h=>by cases h
 | g + 1,N,cx,x,n,q,hx,h=>by
  simp only [erG] at h;obtain ⟨t,ht,h⟩:=ak' h;obtain ⟨b,hb,h⟩:=ak' h;have h1:=(aN' hB GJ).le _ _ _ _ ht;have h2:=jA' hB hb;have h3:=kQ' n;split at h
  ·injection h with h
   subst h;have:=ag' x;exact ⟨by show 1 <= _; omega,by simp only; omega⟩
  ·obtain ⟨h4,h5⟩:=qp' hB hx (tf' hB g) h
   exact ⟨h4,by omega⟩
end
theorem IsRw.im {X:List Nat} {w w':World} {l:List Nd} {v:Value} (hX:XL X w) (h:IsRw l w w' v):SV rNd (Im X w') l v:=by
 obtain ⟨a,c,h1,h2,h3⟩:=h;exact ⟨a,c,h1,h2.mono fun _ _ _ h=>Im.of_new hX h,h3⟩
theorem IsRw.low {w w1 w':World} {l:List Nd} {v:Value} (h:IsRw l w1 w' v) (hk:w.heap.size <= w1.heap.size):IsRw l w w' v:=by
 obtain ⟨a,c,h1,h2,h3⟩:=h;exact ⟨a,c,h1,h2.mono fun _ _ _ h=>⟨KQ hk h.1,h.2⟩,h3⟩
theorem IsRw.kp {w w1 w2:World} {l:List Nd} {v:Value} {Y:List Nat} (h:IsRw l w w1 v) (k:Kp Y w1 w2) (hY:XL Y w):IsRw l w w2 v:=by
 obtain ⟨a,c,h1,h2,h3⟩:=h;exact ⟨a,c,h1,h2.mono fun b _ _ h=>⟨h.1,h.2.kp k fun hb=>by have:=hY b hb; have:=h.1; omega⟩,h3⟩
theorem ex' (w:World) {op ia ib:Int} (h1:I64 op) (h2:I64 ia) (h3:I64 ib) :
  CC 40 #[iV op,iV ia,iV ib,.slice none 0 0] w (fun e w'=>(∃ v,e = .returned v /\ IsRw [⟨op,ia,ib⟩] w w' v) /\ Kp [] w w') :=
 dm' (D:=fun _ _ _=>False) (fun _ _ _ h=>h.elim) h1 h2 h3 [] none 0 (Sl.nil _ _ _) (by simp) (by simp)
theorem vL' {X:List Nat} {w:World} {b T:Nat} {v:Value} {l:List Nd} (hB:Bk w.heap b [v] T) (hb:b ∉ X) (hv:SV rNd (Im X w) l v):Sl (rSl rNd) (Im X w) (some ⟨b,0,none⟩) [l]:=by
 obtain ⟨a,c,rfl,h1,h2⟩:=hv;refine ⟨by simp,.inr ⟨b,0,rfl,fun i q hq=>?_⟩⟩
 match i,hq with
 | 0,hq =>
  obtain rfl:=JB hq;refine ⟨[_],⟨a,c,rfl,h1⟩,fun j u hj=>⟨?_,hb⟩⟩;rw [Nat.zero_mul,Nat.add_zero,KW];exact hB.cl hj
 | i + 1,hq=>simp at hq
theorem qq' {X:List Nat} {w:World} {b T:Nat} {v u:Value} {l m:List Nd} (hB:Bk w.heap b [v,u] T) (hb:b ∉ X) (hv:SV rNd (Im X w) l v) (hu:SV rNd (Im X w) m u):Sl (rSl rNd) (Im X w) (some ⟨b,0,none⟩) [l,m]:=by
 obtain ⟨a,c,rfl,h1,h2⟩:=hv;obtain ⟨a',c',rfl,h3,h4⟩:=hu;refine ⟨by simp,.inr ⟨b,0,rfl,fun i q hq=>?_⟩⟩
 match i,hq with
 | 0,hq =>
  obtain rfl:=JB hq;refine ⟨[_],⟨a,c,rfl,h1⟩,fun j u hj=>⟨?_,hb⟩⟩
  match j,hj with
  | 0,hj=>exact hB.cl hj
 | 1,hq =>
  obtain rfl:=JB hq;refine ⟨[_],⟨a',c',rfl,h3⟩,fun j u hj=>⟨?_,hb⟩⟩
  match j,hj with
  | 0,hj =>
   obtain rfl:=JB hj;exact hB.cl (o:=1) rfl
 | i + 2,hq=>simp at hq
theorem cA' {X:List Nat} {w:World} {cx:Ctx} {vc z u:Value} {t:Tr} {o:Option Tr} {b T:Nat} (hX:XL X w) (hc:SV rBd (Im X w) (cx.map bdR) vc) (hcl:cx.length <= 300) (hB:Bk w.heap b [z,u] T) (hb:b ∉ X) (hz:TmV (Im X w) t z) (hu:SV rNd (Im X w) (nH' o) u) :
  CC 42 #[vc,.slice (some ⟨b,0,none⟩) 1 1] w (fun e w'=>(∃ v,e = .returned v /\ SV rBd (Im X w') ((cx ++ [(t,o)]).map bdR) v) /\ Kp [] w w'):=by
 obtain ⟨q1,q2⟩:=no' (Im.sub X w) hc (ta' hB hb hz hu) (by simp) (by simp; omega) (by simp);refine ⟨q1,q2.mono fun e w' h=>?_⟩;obtain ⟨⟨v,rfl,hv⟩,hk⟩:=h;refine ⟨⟨v,rfl,?_⟩,hk⟩;rw [List.map_append];exact hv.mono (Im.cn hX hk)
def vX' (B:BoT) (va:Value) (g:Nat) (rc:RcE):Prop :=
 ∀ {X:List Nat} {w:World} {be:Nat} {cx:Ctx} {n:Nat} {x:Tr} {vc v:Value},(XL X w) -> be ∈ X -> CxOk B cx -> cx.length <= 260 -> EraC (Im X w) w be B n va -> n <= 100000 -> Ft (QB B) (cx.length:Int) x -> (row x).length <= g -> SV rBd (Im X w) (cx.map bdR) vc -> TmV (Im X w) x v ->
  CC 22 #[pt be,vc,v] w (ErP (fun w' r u=>IsRw r w w' u) X w be B va (rc cx x n))
def ErK (B:BoT) (rc:RcE):Prop:=∀ (M:Int) cx y n q,Ft (QB B) M y -> rc cx y n = .ok q -> EOk q y n
theorem Im.own {X:List Nat} {w w':World} {v v':Value} (k:Kp v.ownBlock.toList w w') (hv:v'.ownBlock = v.ownBlock \/ v'.ownBlock = some w.heap.size):∀ b o u,Im (v.ownBlock.toList ++ X) w b o u -> Im (v'.ownBlock.toList ++ X) w' b o u:=fun b o u h=>by
 have hlt:=h.hold;refine ⟨h.1.kp k fun hb=>h.2 (List.mem_append_left _ hb),fun hb=>?_⟩;rcases List.mem_append.1 hb with hb | hb
 ·rcases hv with hv | hv
  ·rw [hv] at hb
   exact h.2 (List.mem_append_left _ hb)
  ·rw [hv] at hb
   have:b = w.heap.size:=by simpa using hb
   omega
 ·exact h.2 (List.mem_append_right _ hb)
theorem Im.old {X:List Nat} {w1 w2:World} {v:Value} {be:Nat} (k:Kp [be] w1 w2) (hbe:be ∈ X) (hv:∀ g,v.ownBlock = some g -> w1.heap.size <= g):∀ b o u,Im X w1 b o u -> Im (v.ownBlock.toList ++ X) w2 b o u:=fun b o u h=>by
 have hlt:=h.hold;have h2:=Im.kb k hbe b o u h;refine ⟨h2.1,fun hb=>?_⟩;rcases List.mem_append.1 hb with hb | hb
 ·have:=hv b (by simpa using hb)
  omega
 ·exact h2.2 hb
structure LoS where
 i:Nat
 m:Nat
 acc:List (List Nd)
 v:Value
section
variable {w:World} {X:List Nat} {B:BoT} {cx:Ctx} {be n g:Nat} {va:Value} {rc:RcE}
theorem ur' (hB:GoodB B) (hrc:vX' B va g rc) (hrk:ErK B rc) (hX:XL X w) (hbe:be ∈ X) (hcx:CxOk B cx) (hcl:cx.length <= 256) (hJ:EraC (Im X w) w be B n va) (hn:n <= 100000) {x:Tr} (hx:Ft (QB B) (cx.length:Int) x) (h12:x.n.op = 12) (hg:(row x).length <= g + 1)
  {vc vk:Value} (hc:SV rBd (Im X w) (cx.map bdR) vc) (hvk:TmsV (Im X w) (kidsT x) vk) (hi64:I64 x.n.op /\ I64 x.n.a /\ I64 x.n.b) :
  CC 44 #[pt be,vc,.agg #[iV x.n.op,iV x.n.a,iV x.n.b],vk] w (ErP (fun w' r u=>IsRw r w w' u) X w be B va (vJ' rc cx x n)):=by
 refine oF Tryz.func44 ?_;obtain ⟨RES,hRES⟩:∃ r,vJ' rc cx x n = r:=⟨_,rfl⟩
 rw [hRES];unfold vJ' at hRES;have hl:=aR' hx.ok h12;have hkl:=bQ' hx.ok h12;obtain ⟨nd,hnd⟩:∃ nd,nd = x.n:=⟨_,rfl⟩
 obtain ⟨nb,hnb⟩:∃ nb:Nat,x.n.b = (nb:Int):=⟨x.n.b.toNat,by omega⟩
 have hnb':x.n.b.toNat = nb:=by omega
 rw [<- hnd] at hi64 hRES ⊢;have hndb:nd.b = (nb:Int):=by rw [hnd,hnb]
 obtain ⟨ak,ck,rfl,_,_⟩:=id hvk;obtain ⟨ac,cc,rfl,_,_⟩:=id hc;refine cO (args:=[_,_,_,_]) 63 [.tmp 8] τok Tryz.func44 ?_;refine new fun b6 w0 hb6 h6 hs0 hk0=>?_;have h6:Bk w0.heap b6 [iV nd.op,iV nd.a,iV nd.b] 42:=h6;have hb6X:b6 ∉ X:=fun hm=>by
  have h1:=hX _ hm;omega
 have hX0:=xU hX hk0;have up0:∀ b o v,Im X w b o v -> Im X w0 b o v:=fun b o v h=>h.tr hk0;refine ld (h6.cl rfl).cell ?_;rw [hndb];refine lp τok (σ:=Nat × Value) (fun q=>[(0,pt be),(3,.slice ak (kidsT x).length ck),(6,pt b6),(9,q.2),(17,iV (nb:Int)),(18,iV (q.1:Int))])
  (fun q w'=>q.1 <= nb /\ SV rBd (Im X w') ((cx ++ (aD' x).take q.1).map bdR) q.2 /\ Kp [] w0 w') (fun q=>nb - q.1) (0,_) rfl
  ⟨rfl,rfl,rfl,rfl,rfl,rfl,trivial⟩ ⟨KV _,by simpa using hc.mono up0,Kp.refl _ _⟩ ?_
 rintro ⟨j,vv⟩ w1 ⟨hj,hV1,k01⟩;simp only at hj hV1;obtain ⟨avv,cvv,rfl,_,_⟩:=id hV1;have kw1:Kp [] w w1:=hk0.tr k01;have hX1:=xU hX kw1;have up1:∀ b o v,Im X w b o v -> Im X w1 b o v:=fun b o v h=>h.tr kw1;have hfl:=bw' x;refine ac' (fun g1=>?_) (fun g1=>?_)
 ·have g1:(j:Int) < (nb:Int):=g1
  obtain ⟨e1,e2,h1,h2⟩:=cb' hx h12 (i:=j) (by omega);obtain ⟨bk,ok,ck',pk,z,hz,hzT⟩:=(hvk.mono up1).get e1;injection pk with q1 q2 q3
  subst q1 q3;obtain ⟨az,cz,rfl,_,_⟩:=id hzT;have hj2:(2:Int) * (j:Int) = ((2 * j:Nat):Int):=by omega
  refine i6 ?_;rw [hj2];refine ix (2 * j) rfl (by omega) ?_;refine ld (Im.sub X w1 _ _ _ hz).cell ?_;refine ab' (dG' (Im.sub X w1) (fun _ _ _ h=>h.hold) h1 (by omega) hzT (b:=(j:Int)) (by omega)) ?_;rintro e w3 ⟨ul,rfl,hul,hk3⟩;have hul:=hul.tv hX1;obtain ⟨aul,cul,rfl,_,_⟩:=id hul;refine ab' (fe' w3) ?_;rintro e w4 ⟨⟨v4,rfl⟩,hk4⟩;refine fill [.slice aul (row (ay' (kidD x (2 * j)) j 0)).length cul,.slice none 0 0] rfl ?_;refine new fun b5 w5 hb5 h5 hs5 hk5=>?_;have hX4:XL X w4:=fun b hb=>KZ (hX1 b hb) (hk3.tr hk4).size;have hX5:=xU hX4 hk5;have hb5X:b5 ∉ X:=fun hm=>by
   have h1:=hX4 _ hm;omega
  have k15:=(hk3.tr hk4).tr hk5;refine ab' (cA' (t:=ay' (kidD x (2 * j)) j 0) (o:=none) hX5 (hV1.mono fun _ _ _ h=>Im.tr k15 h) (by simp; omega) h5 hb5X (hul.mono fun _ _ _ h=>h.tr (hk4.tr hk5)) (SV.nil _ _)) ?_;rintro e w6 ⟨⟨v6,rfl,hv6⟩,hk6⟩;have o6:=hv6.one;refine i6 ?_;refine ⟨(j + 1,v6),by simp only; omega,rfl,⟨rfl,rfl,rfl,rfl,rfl,rfl,trivial⟩,by show j + 1 <= _; omega,?_,k01.tr (k15.tr hk6)⟩;simp only;rw [ho' (by omega),<- List.append_assoc];exact hv6
 have g1:¬ (j:Int) < (nb:Int):=g1;obtain rfl:j = nb:=by omega
 obtain ⟨CX,hCX⟩:∃ c,c = cx ++ aD' x:=⟨_,rfl⟩
 have htk:cx ++ (aD' x).take j = CX:=by rw [JG (by omega),hCX]
 have hCXl:CX.length = cx.length + j:=by rw [hCX,JK]; omega
 have hCXok:CxOk B CX:=by rw [hCX]; exact gT' hcx (by omega) hx h12
 rw [htk] at hV1 ⊢;rw [<- hCX] at hRES;have h61:=h6.kp k01 (by simp);refine ld (h61.cl rfl).cell ?_;rw [hndb];have hbl:(bodiesT x).length = j:=by simp [bodiesT,hnb']
 have hbin:∀ i,i < j -> (bodiesT x)[i]? = some (kidD x (2 * i + 1)):=fun i hi=>by
  unfold bodiesT;rw [hnb',JX,List.getElem?_range hi]
  rfl
 have hod:(rows (bodiesT x)).length <= (rows (kidsT x)).length:=jB' x.n.b.toNat (kidsT x) (by omega);have hkr:=ff' x;have hxl:=hx.len;have hbe1:=hX1 be hbe;refine lp τok (σ:=LoS) (fun q=>[(0,pt be),(3,.slice ak (kidsT x).length ck),(6,pt b6),(9,.slice avv (CX.map bdR).length cvv),(13,q.v),(40,iV (j:Int)),(41,iV (q.i:Int))])
  (fun q w'=>q.i <= j /\ q.m <= n /\ q.acc.length = q.i /\ q.acc.flatten.length <= 34 * (rows ((bodiesT x).take q.i)).length /\ EraC (Im (q.v.ownBlock.toList ++ X) w') w' be B q.m va /\ Own (rSk rNd) 34 w1.heap.size w' q.v q.acc /\ Kp [be] w1 w' /\ bdJ (ek' rc CX ((bodiesT x).drop q.i) q.m) (fun l n=>.ok (⟨29,nd.a,nd.b⟩ :: (q.acc ++ l).flatten,n)) = RES) (fun q=>j - q.i) ⟨0,n,[],.slice none 0 0⟩ rfl
  ⟨rfl,rfl,rfl,rfl,rfl,rfl,rfl,trivial⟩ ⟨KV _,KJ _,rfl,by simp,(hJ.mono up1).kp kw1 (by simp),Own.nil _ _ (KJ _),Kp.refl _ _,hRES⟩ ?_
 clear hRES
 rintro ⟨i,m,acc,va1⟩ w2 ⟨hi,hm,hal,hfl2,hJ2,hO2,k12,hres⟩;simp only at hi hm hal hfl2 hJ2 hO2 hres;have kw2:Kp [be] w w2:=(kw1.weak (by simp)).tq k12;have hX2:=xU hX kw2;have hblk:=hO2.block;have hblk1:∀ q,va1.ownBlock = some q -> w1.heap.size <= q:=fun q hq=>(hblk q hq).1;obtain ⟨Z,hZ⟩:∃ Z,Z = va1.ownBlock.toList ++ X:=⟨_,rfl⟩
 have hbeZ:be ∈ Z:=by rw [hZ]; exact List.mem_append_right _ hbe
 have hZX:∀ b ∈ X,b ∈ Z:=fun b hb=>by rw [hZ]; exact List.mem_append_right _ hb
 have hZ2:XL Z w2:=fun b hb=>by
  rw [hZ] at hb;rcases List.mem_append.1 hb with hb | hb
  ·exact (hblk b (by simpa using hb)).2
  ·exact hX2 b hb
 have up12:∀ b o v,Im X w1 b o v -> Im Z w2 b o v:=by rw [hZ]; exact Im.old k12 hbe hblk1
 have up2:∀ b o v,Im X w b o v -> Im Z w2 b o v:=fun b o v h=>up12 _ _ _ (up1 _ _ _ h);rw [<- hZ] at hJ2;have hsumt:(rows ((bodiesT x).take i)).length <= (rows (bodiesT x)).length:=by
  have:=congrArg (fun l=>(rows l).length) (List.take_append_drop i (bodiesT x));simp only [aA',JK] at this;omega
 refine ac' (fun g2=>?_) (fun g2=>?_)
 ·have g2:(i:Int) < (j:Int):=g2
  have hgi:=hbin i (by omega);obtain ⟨_,_,hdr⟩:=af' (l:=bodiesT x) (k:=i) (by omega);have hrm:=fg' hgi;rw [List.drop_eq_getElem_cons (by omega)] at hres;have hge:(bodiesT x)[i] = kidD x (2 * i + 1):=by
   have:=hgi;rw [List.getElem?_eq_getElem (by omega)] at this;exact JB this
  rw [hge] at hres;simp only [ek'] at hres;obtain ⟨e1,e2,h1,h2⟩:=cb' hx h12 (i:=i) (by omega);have hsub:=bL' x _ (JQ e2);obtain ⟨bk2,ok2,ck2,pk2,z2,hz2,hzT2⟩:=(hvk.mono up2).get e2;injection pk2 with r1 r2 r3
  subst r1 r3;obtain ⟨az2,cz2,rfl,_,_⟩:=id hzT2;have hj2:(2:Int) * (i:Int) = ((2 * i:Nat):Int):=by omega
  have hj3:((2 * i:Nat):Int) + 1 = ((2 * i + 1:Nat):Int):=by omega
  refine i6 ?_;rw [hj2];refine i6 ?_;rw [hj3];refine ix (2 * i + 1) rfl (by omega) ?_;refine ld (Im.sub Z w2 _ _ _ hz2).cell ?_;have h2':Ft (QB B) (CX.length:Int) (kidD x (2 * i + 1)):=by rw [hCXl]; exact h2.mono (by omega)
  refine ab' (hrc hZ2 hbeZ hCXok (by omega) hJ2 (by omega) h2' (by omega) (hV1.mono up12) hzT2) ?_;rintro e w3 he;rcases he.cs with ⟨er,hq,rfl,hk3⟩ | ⟨⟨r,m3⟩,u,hq,rfl,hu,hJ3,hk3⟩
  ·rw [hq] at hres
   obtain rfl:.error er = RES:=hres;exact ⟨rfl,kw2.tq hk3⟩
  rw [hq] at hres;obtain ⟨hr1,hr2⟩:=hrk _ _ _ _ _ h2' hq;simp only at hu hJ3 hr1 hr2;obtain ⟨ar,cr,rfl,hsr,hcr⟩:=hu;refine fill [.slice ar r.length cr] rfl ?_;refine new fun b4 w4 hb4 h4 hs4 hk4=>?_;have k24:Kp [be] w2 w4:=hk3.tr hk4;have hO4:=hO2.kpl k24 (by simp; omega);refine hO4.ap1 τok rfl rfl (by decide) r [.slice ar r.length cr] ⟨ar,cr,rfl,hcr,hsr.mono (oz' hO2 hk4)⟩ (bZ h4) (by omega) (by unfold maxLen; omega) fun v5 w5 hO5 hk5 hv5=>?_;have hlo:∀ q ∈ va1.ownBlock.toList,w1.heap.size <= q:=fun q hq=>hblk1 q (by simpa using hq);have k15:Kp [be] w1 w5:=(k12.tq k24).ownX hk5 hO4;have hJ4:EraC (Im Z w4) w4 be B m3 va:=(hJ3.mono fun b o v h=>h.tr hk4).kp hk4 (by simp);rw [hZ] at hJ4;have hJ5:EraC (Im (v5.ownBlock.toList ++ X) w5) w5 be B m3 va:=(hJ4.mono (Im.own hk5 hv5)).kp hk5 fun hb=>by have:=hlo be hb; omega
  refine i6 ?_;have hlf:(acc ++ [r]).flatten.length = acc.flatten.length + r.length:=by simp
  have htk5:(rows ((bodiesT x).take (i + 1))).length = (rows ((bodiesT x).take i)).length + (row (kidD x (2 * i + 1))).length:=by
   rw [aj' hgi,aA'];simp [rows]
  refine ⟨⟨i + 1,m3,acc ++ [r],v5⟩,by simp only; omega,rfl,⟨rfl,rfl,rfl,rfl,rfl,rfl,rfl,trivial⟩,by show i + 1 <= _; omega,by simp only; omega,by simp [hal],?_,hJ5,hO5,k15,?_⟩
  ·show (acc ++ [r]).flatten.length <= 34 * (rows ((bodiesT x).take (i + 1))).length
   rw [hlf,htk5];omega
  ·show bdJ (ek' rc CX ((bodiesT x).drop (i + 1)) m3) _ = RES
   cases hq2:ek' rc CX ((bodiesT x).drop (i + 1)) m3 with
   | error er =>
    simp only [bdJ,hq2] at hres ⊢;exact hres
   | ok q =>
    simp only [bdJ,hq2] at hres ⊢;rw [<- hres];simp
 have g2:¬ (i:Int) < (j:Int):=g2;obtain rfl:i = j:=by omega
 rw [JY (by omega)] at hres;simp only [ek',bdJ] at hres;have hres:.ok (⟨29,nd.a,nd.b⟩ :: acc.flatten,m) = RES:=by rw [<- hres]; simp
 have h62:=h61.kp k12 (by simp; intro he; exact hb6X (he ▸ hbe));refine ld (h62.cl rfl).cell ?_;refine ld (h62.cl rfl).cell ?_;obtain ⟨ad,cd,rfl,hsd⟩:=hO2.den (by omega);refine ab' (dm' (New.sub w1.heap.size w2) (by unfold I64; omega) hi64.2.1 hi64.2.2 acc ad cd hsd.of_sk (by omega) (by rw [<- List.length_flatten]; omega)) ?_;rintro e w3 ⟨⟨v3,rfl,hr3⟩,hk3⟩;subst hres;exact ⟨⟨v3,rfl,hr3.low kw2.size,(hJ2.mono fun b o v h=>(h.less hZX).tr hk3).kp hk3 (by simp)⟩,kw2.tr hk3⟩
end
section
variable {w:World} {X:List Nat} {B:BoT} {cx:Ctx} {be n g:Nat} {va:Value} {rc:RcE}
theorem qr' (hB:GoodB B) (hrc:vX' B va g rc) (hrk:ErK B rc) (hX:XL X w) (hbe:be ∈ X) (hcx:CxOk B cx) (hcl:cx.length <= 260) (hJ:EraC (Im X w) w be B n va) (hn:n <= 100000) {t:Tr} (ht:Ft (QB B) (cx.length:Int) t) (h11:t.n.op = 11) (hg:(row t).length <= g + 1) (hmt:((kidsT t).drop 2).length = (bm' B t.n.a).ctors.length)
  {vc vk:Value} (hc:SV rBd (Im X w) (cx.map bdR) vc) (hvk:TmsV (Im X w) (kidsT t) vk) (hi:I64 t.n.op /\ I64 t.n.a /\ I64 t.n.b) :
  CC 43 #[pt be,vc,.agg #[iV t.n.op,iV t.n.a,iV t.n.b],vk] w (ErP (fun w' r u=>IsRw r w w' u) X w be B va (kO' B rc cx t n)):=by
 refine oF Tryz.func43 ?_;obtain ⟨RES,hRES⟩:∃ r,kO' B rc cx t n = r:=⟨_,rfl⟩
 rw [hRES];unfold kO' at hRES;have hfam:=hL' ht.node' (.inr h11);have hkr:=ff' t;have htl:=ht.len;have hca:=nq' hB hfam;obtain ⟨nd,hnd⟩:∃ nd,nd = t.n:=⟨_,rfl⟩
 obtain ⟨l1,l2,l3,kf⟩:=eb' ht h11;rw [<- hnd] at hRES hfam hi l1 l2 l3 hmt hca ⊢;obtain ⟨i,x,s,ps0,qi,hia,_,hi0,hxD,hF⟩:=hB.fam hfam (KJ _);have htr:tr x.sort = s:=by rw [hF.sort]; exact dH' hF.fs.ok
 rw [hxD] at hRES hmt;rw [htr] at hRES;have hlc:=hF.lc;obtain ⟨v1,v2,v3,hJb,hO,hE,hP⟩:=id hJ;obtain ⟨be',oe,ce,rfl,hat⟩:=hE.at hi0;obtain ⟨w1e,w2e,w3e,w4e,w5e,w6e,hcs,hki,hso,hpa,hin,hct,hty,hbo⟩:=cW' hat;rw [hF.sort] at hso;have hso:=TmV.sv.2 hso;have hone:∀ v ∈ [iV x.kind,w1e,w2e,w3e,w4e,w5e,w6e],v.oneCell' = true:=fun v hv=>by
  simp at hv;rcases hv with rfl | rfl | rfl | rfl | rfl | rfl | rfl
  ·rfl
  ·exact (TmV.sv.1 hso).one
  ·exact hpa.one
  ·exact hin.one
  ·exact hct.one
  ·exact hty.one
  ·exact hbo.one
 obtain ⟨ap,cp,rfl,_,_⟩:=id hpa;obtain ⟨ai,ci,rfl,_,_⟩:=id hin;obtain ⟨bs,os,cs,rfl,his1,his2,his3,hsc⟩:=hso.hd;obtain ⟨acc,ccc,rfl,_,_⟩:=id hct;obtain ⟨ak,ck,rfl,_,_⟩:=id hvk;obtain ⟨ac,cc,rfl,_,_⟩:=id hc;refine cO (args:=[_,_,_,_]) 74 [.tmp 8] τok Tryz.func43 ?_;refine new fun b6 w1 hb6 h6 hs1 hk1=>?_;have h6:Bk w1.heap b6 [iV nd.op,iV nd.a,iV nd.b] 42:=h6;have hJ1:=hJb.kp hk1 (by simp);refine aq' τok (fun z=>Kp [] w1 z) ?_;refine rV τok (rg 0 9) 2 (mR 11 9) (kQd w1) ?_;refine lk hJ1 ?_;refine lk h6 ?_;refine ix i hia (ai' hi0) ?_;refine cB' [iV x.kind,.slice (some ⟨bs,os,none⟩) (row s).length cs,.slice ap x.params.length cp,.slice ai x.indices.length ci,.slice acc x.ctors.length ccc,w5e,w6e] rfl (fun j v hj=>(hcs j v hj).1.kp hk1 (by simp)) ?_;refine nV τok 9 1 (mR 11 10) ?_;refine new fun b9 w2 hb9 h9 hs2 hk2=>?_;have hk2:Kp [] w1 w2:=hk2.rd;refine ⟨.inl hk2,?_⟩;refine nV τok 10 0 (mR 11 11) ?_;refine stN (vs:=[iV x.kind,.slice (some ⟨bs,os,none⟩) (row s).length cs,.slice ap x.params.length cp,.slice ai x.indices.length ci,.slice acc x.ctors.length ccc,w5e,w6e]) h9 rfl hone fun w3 h9 hs3 hk3=>?_;refine ⟨.inr (by kernel_rfl),?_⟩;refine dV ?_;have k13:=hk2.newSt hb9 hk3;have k03:=hk1.tr k13;have h6:=h6.kp k13 (by simp);have h9:Bk w3.heap b9 [iV x.kind,.slice (some ⟨bs,os,none⟩) (row s).length cs,.slice ap x.params.length cp,.slice ai x.indices.length ci,.slice acc x.ctors.length ccc,w5e,w6e] 72:=h9;have hb6X:b6 ∉ X:=fun hm=>by
  have h1:=hX _ hm;omega
 have hb9X:b9 ∉ X:=fun hm=>by
  have h1:=hX _ hm;have h2:=hk1.size;have h3:b9 = w1.heap.size:=hb9;omega
 have up3:∀ b o v,Im X w b o v -> Im X w3 b o v:=fun b o v h=>h.tr k03;have hX3:=xU hX k03;have hJ3:EraC (Im X w3) w3 be B n va:=(hJ.mono up3).kp k03 (by simp);refine ld (h9.cl rfl).cell ?_;refine ix 0 rfl (ag' _) ?_;refine ld (Im.sub X w3 _ _ _ (up3 _ _ _ (by simpa using hsc 1 _ rfl))).cell ?_;refine ac' (fun g0=>?_) (fun g0=>?_)
 ·have g0:s.n.a = 0:=g0
  rw [if_pos g0] at hRES;refine ld (h6.cl rfl).cell ?_;refine ac' (fun g1=>?_) (fun g1=>?_)
  ·have g1:nd.b = 0:=g1
   rw [if_pos g1] at hRES;subst hRES;refine ab' (ex' w3 (op:=22) (ia:=0) (ib:=0) (by unfold I64; omega) (by unfold I64; omega) (by unfold I64; omega)) ?_;rintro e w4 ⟨⟨v4,rfl,hr4⟩,hk4⟩;exact ⟨⟨v4,rfl,hr4.low k03.size,(hJ3.mono fun b o v h=>h.tr hk4).kp hk4 (by simp)⟩,(k03.tr hk4).weak (by simp)⟩
  have g1:¬ nd.b = 0:=g1;rw [if_neg g1] at hRES;have e2:(kidsT t)[2]? = some (kidD t 2):=by
   rw [fh',List.getD_eq_getElem?_getD,List.getElem?_eq_getElem (by omega)]
   rfl
  have hrm:=fg' e2;obtain ⟨bk,ok,ck',pk,z,hz,hzT⟩:=(hvk.mono up3).get e2;injection pk with q1 q2 q3
  subst q1 q3;obtain ⟨az,cz,rfl,_,_⟩:=id hzT;have h2F:=kf _ (JQ e2);refine ix 2 rfl (by omega) ?_;refine ld (Im.sub X w3 _ _ _ hz).cell ?_;refine ab' (hrc hX3 hbe hcx hcl hJ3 hn h2F (by omega) (hc.mono up3) hzT) ?_;rintro e w4 he;rcases he.cs with ⟨er,hq,rfl,hk4⟩ | ⟨⟨r,m4⟩,u,hq,rfl,hu,hJ4,hk4⟩
  ·rw [hq] at hRES
   obtain rfl:.error er = RES:=hRES;exact ⟨rfl,(k03.weak (by simp)).tq hk4⟩
  rw [hq] at hRES;obtain ⟨hr1,hr2⟩:=hrk _ _ _ _ _ h2F hq;simp only at hu hJ4 hr1 hr2;simp only [bdJ] at hRES;have k04:Kp [be] w w4:=(k03.weak (by simp)).tq hk4;have hX4:=xU hX k04;have h94:=h9.kp hk4 (by simp; intro he; exact hb9X (he ▸ hbe));have hct4:=(hct.mono up3).mono (Im.kb hk4 hbe);obtain ⟨c0,hc0,_⟩:=af' (l:=x.ctors) (k:=0) (by rw [<- hmt,List.length_drop]; omega);have hcD:ctD B nd.a 0 = c0:=by
   unfold ctD;rw [hxD];show x.ctors.getD 0 default = c0;rw [List.getD_eq_getElem?_getD,hc0]
   rfl
  rw [hcD] at hRES hca;obtain ⟨bc,oc,cc1,pc,hcat⟩:=hct4.at hc0;injection pc with q1 q2 q3
  subst q1 q3;obtain ⟨vg,vo,hcc,hga,_⟩:=gb' hcat;obtain ⟨ag,cg,rfl,_,_⟩:=id hga;refine ld (h94.cl rfl).cell ?_;refine ix 0 rfl (ai' hc0) ?_;refine ld (Im.sub X w4 _ _ _ (by simpa using hcc 0 _ rfl)).cell ?_;obtain ⟨L,hL⟩:∃ L,L = c0.args.length:=⟨_,rfl⟩
  rw [<- hL] at hRES hca ⊢;refine lp τok (σ:=Nat × List Nd × Value) (fun q=>[(10,q.2.2),(44,iV (L:Int)),(45,iV (q.1:Int))])
   (fun q w'=>q.1 <= L /\ q.2.1.length <= 34 * (row (kidD t 2)).length + 2 * q.1 /\ IsRw q.2.1 w3 w' q.2.2 /\ Kp [] w4 w' /\ .ok (dn' (L - q.1) q.2.1,m4) = RES) (fun q=>L - q.1) (0,r,u) rfl
   ⟨rfl,rfl,rfl,trivial⟩ ⟨KV _,by simp only; omega,hu,Kp.refl _ _,hRES⟩ ?_
  clear hRES hu
  rintro ⟨k,r5,u5⟩ w5 ⟨hk,hl5,hu5,k45,hres⟩;simp only at hk hl5 hu5 hres;have k05:Kp [be] w w5:=k04.tr k45;have hX5:=xU hX k05;refine ac' (fun g2=>?_) (fun g2=>?_)
  ·have g2:(k:Int) < (L:Int):=g2
   rw [show L - k = (L - (k + 1)) + 1 by omega] at hres;simp only [dn'] at hres;refine ab' (ex' w5 (op:=22) (ia:=0) (ib:=0) (by unfold I64; omega) (by unfold I64; omega) (by unfold I64; omega)) ?_;rintro e w6 ⟨⟨v6,rfl,hr6⟩,hk6⟩;obtain ⟨a5,c5,rfl,_,_⟩:=id hu5;obtain ⟨a6,c6,rfl,_,_⟩:=id hr6;refine fill [.slice a5 r5.length c5,.slice a6 1 c6] rfl ?_;refine new fun b7 w7 hb7 h7 hs7 hk7=>?_;have hX6:=xU hX5 hk6;have hX7:=xU hX6 hk7;have hb7X:b7 ∉ X:=fun hm=>by
    have h1:=hX6 _ hm;omega
   have hrow:=dm' (Im.sub X w7) (op:=24) (ia:=0) (ib:=0) (by unfold I64; omega) (by unfold I64; omega) (by unfold I64; omega) [r5,qO'] (some ⟨b7,0,none⟩) 2 (qq' h7 hb7X (((hu5.kp (hk6.tr hk7) (by simp)).im hX3)) (((hr6.kp hk7 (by simp)).im hX5))) (by simp) (by simp [qO']; omega);refine ab' hrow ?_;rintro e w8 ⟨⟨v8,rfl,hr8⟩,hk8⟩;refine i6 ?_;refine ⟨(k + 1,⟨24,0,0⟩ :: (r5 ++ qO'),v8),by simp only; omega,rfl,⟨rfl,rfl,rfl,trivial⟩,by show k + 1 <= L; omega,?_,?_,k45.tr ((hk6.tr hk7).tr hk8),hres⟩
   ·show (_ :: (r5 ++ qO')).length <= 34 * (row (kidD t 2)).length + 2 * (k + 1)
    simp [qO'];omega
   ·have h9:=hr8.low (w:=w3) (KQ hk4.size (KQ k45.size (hk6.tr hk7).size))
    simpa using h9
  have g2:¬ (k:Int) < (L:Int):=g2;obtain rfl:k = L:=by omega
  rw [Nat.sub_self] at hres;simp only [dn'] at hres;subst hres;exact ⟨⟨_,rfl,hu5.low k03.size,(hJ4.mono fun b o v h=>h.tr k45).kp k45 (by simp)⟩,k05⟩
 have g0:¬ s.n.a = 0:=g0;rw [if_neg g0] at hRES;obtain ⟨adr,cdr,pdr,vre,hsre,hvre⟩:=(hvk.mono up3).drop (k:=1) (by omega);injection pdr with q1 q2 q3
 subst q1 q3;obtain ⟨ls,hls⟩:∃ l,l = (kidsT t).drop 1:=⟨_,rfl⟩
 rw [<- hls] at hRES hvre;obtain ⟨are,cre,rfl,_,_⟩:=id hvre;have hlsl:ls.length <= 18:=by rw [hls,List.length_drop]; omega
 have hlsm:∀ y ∈ ls,y ∈ kidsT t:=fun y hy=>by rw [hls] at hy; exact List.mem_of_mem_drop hy
 have hod:(rows ls).length <= (rows (kidsT t)).length:=by
  have:=congrArg (fun l=>(rows l).length) (List.take_append_drop 1 (kidsT t));simp only [aA',JK] at this;rw [hls];omega
 refine fX' τok rfl 1 (.slice are ls.length cre) rfl (by omega) hsre ?_;have hbe3:=hX3 be hbe;refine lp τok (σ:=LoS) (fun q=>[(0,pt be),(1,.slice ac (cx.map bdR).length cc),(6,pt b6),(11,q.v),(54,.slice are ls.length cre),(55,iV (ls.length:Int)),(56,iV (q.i:Int))])
  (fun q w'=>q.i <= ls.length /\ q.m <= n /\ q.acc.length = q.i /\ q.acc.flatten.length <= 34 * (rows (ls.take q.i)).length /\ EraC (Im (q.v.ownBlock.toList ++ X) w') w' be B q.m va /\ Own (rSk rNd) 34 w3.heap.size w' q.v q.acc /\ Kp [be] w3 w' /\ bdJ (ek' rc cx (ls.drop q.i) q.m) (fun l n=>.ok (⟨28,nd.a,nd.b⟩ :: (q.acc ++ l).flatten,n)) = RES) (fun q=>ls.length - q.i) ⟨0,n,[],.slice none 0 0⟩ rfl
  ⟨rfl,rfl,rfl,rfl,rfl,rfl,rfl,trivial⟩ ⟨KV _,KJ _,rfl,by simp,hJ3,Own.nil _ _ (KJ _),Kp.refl _ _,hRES⟩ ?_
 clear hRES
 rintro ⟨j,m,ac2,va1⟩ w4 ⟨hj,hm,hal,hfl2,hJ4,hO4,k34,hres⟩;simp only at hj hm hal hfl2 hJ4 hO4 hres;have kw4:Kp [be] w w4:=(k03.weak (by simp)).tq k34;have hX4:=xU hX kw4;have hblk:=hO4.block;have hblk1:∀ q,va1.ownBlock = some q -> w3.heap.size <= q:=fun q hq=>(hblk q hq).1;obtain ⟨Z,hZ⟩:∃ Z,Z = va1.ownBlock.toList ++ X:=⟨_,rfl⟩
 have hbeZ:be ∈ Z:=by rw [hZ]; exact List.mem_append_right _ hbe
 have hZX:∀ b ∈ X,b ∈ Z:=fun b hb=>by rw [hZ]; exact List.mem_append_right _ hb
 have hZ4:XL Z w4:=fun b hb=>by
  rw [hZ] at hb;rcases List.mem_append.1 hb with hb | hb
  ·exact (hblk b (by simpa using hb)).2
  ·exact hX4 b hb
 have up34:∀ b o v,Im X w3 b o v -> Im Z w4 b o v:=by rw [hZ]; exact Im.old k34 hbe hblk1
 rw [<- hZ] at hJ4;have hsumt:(rows (ls.take j)).length <= (rows ls).length:=by
  have:=congrArg (fun l=>(rows l).length) (List.take_append_drop j ls);simp only [aA',JK] at this;omega
 refine ac' (fun g2=>?_) (fun g2=>?_)
 ·have g2:(j:Int) < (ls.length:Int):=g2
  obtain ⟨y,hgi,hdr⟩:=af' (l:=ls) (k:=j) (by omega);have hrm:=fg' hgi;rw [hdr] at hres;simp only [ek'] at hres;have hyk:=hlsm y (JQ hgi);have hyF:=kf y hyk;have hsub:=bL' t y hyk;obtain ⟨bk2,ok2,ck2,pk2,z2,hz2,hzT2⟩:=(hvre.mono up34).get hgi;injection pk2 with r1 r2 r3
  subst r1 r3;obtain ⟨az2,cz2,rfl,_,_⟩:=id hzT2;refine ix j rfl (by omega) ?_;refine ld (Im.sub Z w4 _ _ _ hz2).cell ?_;refine ab' (hrc hZ4 hbeZ hcx hcl hJ4 (by omega) hyF (by omega) ((hc.mono up3).mono up34) hzT2) ?_;rintro e w5 he;rcases he.cs with ⟨er,hq,rfl,hk5⟩ | ⟨⟨r,m5⟩,u,hq,rfl,hu,hJ5,hk5⟩
  ·rw [hq] at hres
   obtain rfl:.error er = RES:=hres;exact ⟨rfl,kw4.tq hk5⟩
  rw [hq] at hres;obtain ⟨hr1,hr2⟩:=hrk _ _ _ _ _ hyF hq;simp only at hu hJ5 hr1 hr2;obtain ⟨ar,cr,rfl,hsr,hcr⟩:=hu;refine fill [.slice ar r.length cr] rfl ?_;refine new fun b7 w6 hb7 h7 hs7 hk6=>?_;have k46:Kp [be] w4 w6:=hk5.tr hk6;have hO6:=hO4.kpl k46 (by simp; omega);refine hO6.ap1 τok rfl rfl (by decide) r [.slice ar r.length cr] ⟨ar,cr,rfl,hcr,hsr.mono (oz' hO4 hk6)⟩ (bZ h7) (by omega) (by unfold maxLen; omega) fun v7 w7 hO7 hk7 hv7=>?_;have hlo:∀ q ∈ va1.ownBlock.toList,w3.heap.size <= q:=fun q hq=>hblk1 q (by simpa using hq);have k37:Kp [be] w3 w7:=(k34.tq k46).ownX hk7 hO6;have hJ6:EraC (Im Z w6) w6 be B m5 va:=(hJ5.mono fun b o v h=>h.tr hk6).kp hk6 (by simp);rw [hZ] at hJ6;have hJ7:EraC (Im (v7.ownBlock.toList ++ X) w7) w7 be B m5 va:=(hJ6.mono (Im.own hk7 hv7)).kp hk7 fun hb=>by have:=hlo be hb; omega
  refine i6 ?_;have hlf:(ac2 ++ [r]).flatten.length = ac2.flatten.length + r.length:=by simp
  have htk5:(rows (ls.take (j + 1))).length = (rows (ls.take j)).length + (row y).length:=by
   rw [aj' hgi,aA'];simp [rows]
  refine ⟨⟨j + 1,m5,ac2 ++ [r],v7⟩,by simp only; omega,rfl,⟨rfl,rfl,rfl,rfl,rfl,rfl,rfl,trivial⟩,by show j + 1 <= _; omega,by simp only; omega,by simp [hal],?_,hJ7,hO7,k37,?_⟩
  ·show (ac2 ++ [r]).flatten.length <= 34 * (rows (ls.take (j + 1))).length
   rw [hlf,htk5];omega
  ·show bdJ (ek' rc cx (ls.drop (j + 1)) m5) _ = RES
   cases hq2:ek' rc cx (ls.drop (j + 1)) m5 with
   | error er =>
    simp only [bdJ,hq2] at hres ⊢;exact hres
   | ok q =>
    simp only [bdJ,hq2] at hres ⊢;rw [<- hres];simp
 have g2:¬ (j:Int) < (ls.length:Int):=g2;obtain rfl:j = ls.length:=by omega
 rw [JY (KJ _)] at hres;simp only [ek',bdJ] at hres;have hres:.ok (⟨28,nd.a,nd.b⟩ :: ac2.flatten,m) = RES:=by rw [<- hres]; simp
 have h64:=h6.kp k34 (by simp; intro he; exact hb6X (he ▸ hbe));refine ld (h64.cl rfl).cell ?_;refine ld (h64.cl rfl).cell ?_;obtain ⟨ad,cd,rfl,hsd⟩:=hO4.den (by omega);refine ab' (dm' (New.sub w3.heap.size w4) (by unfold I64; omega) hi.2.1 hi.2.2 ac2 ad cd hsd.of_sk (by omega) (by rw [<- List.length_flatten]; omega)) ?_;rintro e w5 ⟨⟨v5,rfl,hr5⟩,hk5⟩;subst hres;exact ⟨⟨v5,rfl,hr5.low kw4.size,(hJ4.mono fun b o v h=>(h.less hZX).tr hk5).kp hk5 (by simp)⟩,kw4.tr hk5⟩
end
end Go.Proofs.YtmlnlmkmpgkekaaGreat
