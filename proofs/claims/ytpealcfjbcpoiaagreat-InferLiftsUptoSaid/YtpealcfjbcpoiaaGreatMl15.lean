import Derived.Test.YtpealcfjbcpoiaaGreatMl14
set_option linter.unusedVariables false
set_option linter.unusedSimpArgs false
set_option maxRecDepth 100000
set_option maxHeartbeats 4000000
namespace Go.Proofs.YtpealcfjbcpoiaaGreat
open Go.Wx Cd Tm Lv
def Far (v:Value) (X:List Nat):Prop:=∀ g,v.ownBlock = some g -> g ∉ X
theorem Far.up {v v':Value} {X:List Nat} {w:World} (h:Far v X) (hq:v'.ownBlock = v.ownBlock \/ v'.ownBlock = some w.heap.size) (hX:∀ x ∈ X,x < w.heap.size):Far v' X:=fun g hg hx=>by
 rcases hq with q | q
 ·exact h g (q ▸ hg) hx
 ·rw [q] at hg
  obtain rfl:=JB hg;exact absurd (hX _ hx) (Nat.lt_irrefl _)
theorem Far.symm {v u:Value} (h:Far v u.ownBlock.toList):Far u v.ownBlock.toList:=fun g hg hx=>h g (by simpa using hx) (by simpa using hg)
theorem Own.lts {α:Type} {R:Rd α} {e lo:Nat} {w:World} {v:Value} {l:List α} (h:Own R e lo w v l):∀ x ∈ v.ownBlock.toList,x < w.heap.size:=fun x hx=>(h.block x (by simpa using hx)).2
def lay1 (n j:Nat):List Int:=(List.range n).map fun i=>if i < j then (100 + (i:Int)) else 0
theorem ry' {n j:Nat} (h:j < n):(lay1 n j).set j (100 + (j:Int)) = lay1 n (j + 1):=by
 apply List.ext_getElem
 ·simp [lay1]
 ·intro i h1 h2
  simp only [lay1,List.getElem_set,List.getElem_map,List.getElem_range]
  by_cases e:j = i
  ·subst e
   rw [if_pos rfl,if_pos (by omega)]
  ·rw [if_neg e]
   by_cases q:i < j
   ·rw [if_pos q,if_pos (by omega)]
   ·rw [if_neg q,if_neg (by omega)]
theorem tI' {n:Nat} {pl:List Int} (h:pl.length = n):Mk pl (lay1 n n):=fun v hv=>by
 obtain ⟨i,hi,rfl⟩:=List.mem_map.1 hv;have:=List.mem_range.1 hi;rw [if_pos this];exact .inr (.inr (.inr ⟨i,by omega,rfl⟩))
theorem tJ' {w:World} {b:Nat} {l:List Int} {T:Nat} (h:RowI w.heap b l T) (hi:∀ x ∈ l,I64 x) (hl:l.length <= 1000) {D:Mem} (hD:∀ o v,Cl w.heap b o v -> D b o v):SV rInt D l (.slice (some ⟨b,0,none⟩) l.length l.length) :=
 ⟨_,_,rfl,⟨by omega,.inr ⟨b,0,rfl,fun i x hx=>⟨[iV x],⟨rfl,hi x (JQ hx)⟩,fun j u hj=>by
  match j,hj with
  | 0,hj =>
   obtain rfl:=JB hj;have:=h.cl (ai' hx);rw [List.getD_eq_getElem?_getD,hx] at this;exact hD _ _ this
  | j + 1,hj=>cases hj⟩⟩⟩,KJ _⟩
def sy' (x:Tr):List Tr:=(List.range x.n.b.toNat).map fun i=>kidD x (2 * i)
def sA' (x:Tr):List Tr:=(List.range x.n.b.toNat).map fun i=>kidD x (2 * i + 1)
def nw' (B:BoT) (x:Tr) (i:Nat):Bool:=cz' ((placesM x).getD i 0).toNat (kidD x (2 * i)) && gh' (bY' B (placesM x) 4096) (((placesM x).getD i 0).toNat + 1) (kidD x (2 * i + 1)) (lay1 x.n.b.toNat x.n.b.toNat)
def dW' (B:BoT) (x:Tr):Nat -> Nat -> Int
 | 0,_=>0
 | k + 1,i=>if nw' B x i = true then dW' B x k (i + 1) else 18
def dX' (B:BoT) (x:Tr):Int:=dW' B x x.n.b.toNat 0
section
variable {B:BoT} {C:Mem} {w:World} {N:Int}
theorem nx' (hB:GoodB B) (hS:Sub C w) {x:Tr} (hx:Ft (QB B) N x) (h12:x.n.op = 12) {vb vx:Value} (hvb:BoV C B vb) (hvx:TmV C x vx) :
  CC 91 #[vb,vx] w (fun e w'=>e = .returned (iV (dX' B x)) /\ Kp [] w w'):=by
 refine oF Tryz.func91 ?_;obtain ⟨RES,hRES⟩:∃ r,dX' B x = r:=⟨_,rfl⟩
 rw [hRES];unfold dX' at hRES;have hl:=aG' hx.ok h12;have hlen:=hx.len;obtain ⟨nb,hnb⟩:∃ nb:Nat,x.n.b = (nb:Int):=⟨x.n.b.toNat,by omega⟩
 have hnb':x.n.b.toNat = nb:=by omega
 rw [hnb'] at hRES;have hpll:(placesM x).length = nb:=by simp [placesM]; omega
 have hrow:(row x).length = 1 + (rows x.ks).length:=by
  obtain ⟨n,ks⟩:=x;simp [row,Tr.ks];omega
 have hsub:∀ k,(rows (x.ks.take k)).length <= (rows x.ks).length:=fun k=>by
  have:=bz' (x.ks.take k) (x.ks.drop k);rw [List.take_append_drop] at this;rw [this,JK];omega
 have hvx':=hvx;obtain ⟨bx,ox,cx,rfl,_,_,_,hcx⟩:=hvx.hd;obtain ⟨v1,v2,v3,rfl,hb1,hb2,hb3⟩:=hvb;refine cO (args:=[_,_]) 96 [.tmp 4] τok Tryz.func91 ?_;refine new fun b2 w1 hb2' h2 hs1 hk1=>?_;have h2:Bk w1.heap b2 [iV B.vars,v1,v2,iV B.nat,v3] 26:=h2;refine ix 0 rfl (ag' _) ?_;refine ldC (hS.tr hk1) (by simpa using hcx 2 _ rfl) ?_;refine ldN [iV B.vars,v1,v2,iV B.nat,v3] rfl (bZ h2) ?_;have hone:∀ v ∈ [iV B.vars,v1,v2,iV B.nat,v3,.slice none 0 0],v.oneCell' = true:=fun v hv=>by
  simp at hv;rcases hv with rfl | rfl | rfl | rfl | rfl | rfl
  ·rfl
  ·exact hb1.one
  ·exact hb2.one
  ·rfl
  ·exact hb3.one
  ·rfl
 refine new fun bl w2 hbl hL hs2 hk2=>?_;refine stN (vs:=[iV B.vars,v1,v2,iV B.nat,v3,.slice none 0 0]) hL rfl hone fun w3 hL hs3 hk3=>?_;have k13:=hk2.newSt hbl hk3;have k03:=hk1.tr k13;refine mk τok rfl rfl (n:=nb) hnb (by decide) (by omega) (by omega) fun bm w4 hbm hM hs4 hk4=>?_;have hL:Bk w4.heap bl [iV B.vars,v1,v2,iV B.nat,v3,.slice none 0 0] 171:=hL.kp hk4 (by simp);have hM:RowI w4.heap bm (lay1 nb 0) 173:=by
  unfold RowI;have:(lay1 nb 0).map (Value.int .i64) = rep [iV 0] nb:=by
   rw [nY'];apply List.ext_getElem
   ·simp [lay1]
   ·intro i h1 h2
    simp [lay1]
  rw [this];exact hM
 have k04:=k03.tr hk4;have hsz4:=k04.size;have hsz1:=hk1.size;have hll:w.heap.size <= bl /\ bl < bm /\ bm < w4.heap.size:=by
  have:=k13.size;omega
 refine lp τok (σ:=Nat × Value × Value × Value × List Value × List Value) (fun q=>[(1,.slice (some ⟨bx,ox,none⟩) (row x).length cx),(5,iV x.n.b),(6,pt bl),(7,.slice (some ⟨bm,0,none⟩) nb nb),(8,q.2.2.2.1),(9,q.2.2.1),(10,iV ((1 + (rows (x.ks.take q.1)).length:Nat):Int)),(23,iV x.n.b),(24,iV (q.1:Int))])
  (fun q w'=>q.1 <= nb /\ Bk w'.heap bl [iV B.vars,v1,v2,iV B.nat,v3,q.2.1] 171 /\ RowI w'.heap bm (lay1 nb q.1) 173 /\ Own rInt 3 w.heap.size w' q.2.1 ((placesM x).take q.1) /\ Own ez' 29 w.heap.size w' q.2.2.1 q.2.2.2.2.1 /\ Pcs C q.2.2.2.2.1 ((sy' x).take q.1) /\
   Own ez' 29 w.heap.size w' q.2.2.2.1 q.2.2.2.2.2 /\ Pcs C q.2.2.2.2.2 ((sA' x).take q.1) /\ Far q.2.1 [bl,bm] /\ Far q.2.2.1 [bl,bm] /\ Far q.2.2.2.1 [bl,bm] /\ Far q.2.1 q.2.2.1.ownBlock.toList /\ Far q.2.1 q.2.2.2.1.ownBlock.toList /\ Far q.2.2.1 q.2.2.2.1.ownBlock.toList /\ Kp [] w w' /\ bm < w'.heap.size) (fun q=>nb - q.1) (0,.slice none 0 0,.slice none 0 0,.slice none 0 0,[],[]) rfl
  ⟨rfl,rfl,rfl,rfl,rfl,rfl,rfl,rfl,rfl,trivial⟩ ⟨KV _,hL,hM,Own.nil _ _ hsz4,Own.nil _ _ hsz4,⟨rfl,fun i v y hv=>by simp at hv⟩,Own.nil _ _ hsz4,⟨rfl,fun i v y hv=>by simp at hv⟩,(fun g hg=>by cases hg),(fun g hg=>by cases hg),(fun g hg=>by cases hg),(fun g hg=>by cases hg),(fun g hg=>by cases hg),(fun g hg=>by cases hg),k04,hll.2.2⟩ ?_
 clear hL hM
 rintro ⟨j,vp,vt,vo,ost,osb⟩ w5 ⟨hj,hL,hM,hP,hT,hpT,hO,hpO,fP,fT,fO,dPT,dPO,dTO,k05,hbm5⟩;simp only at hj hL hM hP hT hpT hO hpO fP fT fO dPT dPO dTO;have hlT:ost.length <= 100:=by rw [hpT.1]; simp; omega
 have hlO:osb.length <= 100:=by rw [hpO.1]; simp; omega
 have hlP:((placesM x).take j).length = j:=by rw [List.length_take]; omega
 have hS5:=hS.tr k05;have hbl5:bl < w5.heap.size:=by omega
 refine ac' (fun g1=>?_) (fun g1=>?_)
 ·have g1:(j:Int) < x.n.b:=g1
  obtain ⟨f,hf,ho0,ho1,hfe,hat,h13,hfa0,hfa1,e1,e2,e3,hd⟩:=mN' hx.ok h12 (i:=j) (by omega);have hs3:=hsub (j + 1);have hp0:=ag' (kidD x (2 * j));have hp1:=ag' (kidD x (2 * j + 1));have z1:(x.n :: (rows (x.ks.take j) ++ [f.n])).length = 2 + (rows (x.ks.take j)).length:=by simp; omega
  have z2:(x.n :: (rows (x.ks.take j) ++ (f.n :: row (kidD x (2 * j))))).length = 2 + (rows (x.ks.take j)).length + (row (kidD x (2 * j))).length:=by simp; omega
  obtain ⟨b',o',c',hve,hi1,hi2,hi3,hcc⟩:=hvx'.nd hat;injection hve with q1 q2 q3
  injection q1 with q1
  injection q1 with q4 q5 q6
  subst q4 q5 q3;have hpv:(placesM x)[j]? = some f.n.a:=by simp [placesM,hf]
  have htv:(sy' x)[j]? = some (kidD x (2 * j)):=by unfold sy'; rw [JX,List.getElem?_range (by omega)]; rfl
  have hbv:(sA' x)[j]? = some (kidD x (2 * j + 1)):=by unfold sA'; rw [JX,List.getElem?_range (by omega)]; rfl
  refine as' τok (fun z=>Kp vp.ownBlock.toList w5 z) ?_;refine rV τok (rg 0 7) 4 (mR 11 7) ((Kp.refl _ w5).dr _) ?_;refine ldQ (fun z hz=>(hL.kp hz (fun h=>fP bl (by simpa using h) (by simp))).cl rfl) ?_;refine ix (1 + (rows (x.ks.take j)).length) rfl (ai' hat) ?_;refine ldQ (fun z hz=>by
   have hc:=hcc 1 _ rfl;refine (hS5 _ _ _ hc).kp hz fun h=>?_;have:=(hP.block _ (by simpa using h)).1;have:=(hS _ _ _ hc).lt;omega) ?_
  refine nV τok 7 3 (mR 11 8) ?_;refine fill [iV f.n.a] rfl ?_;refine new fun bp w6 hbp hp hs6 hk6=>?_;have hk6:Kp [] w5 w6:=hk6.rd;refine ⟨.inl (hk6.weak (by simp)),?_⟩;refine nV τok 8 2 (mR 11 9) ?_;refine (hP.kp hk6).ap1 τok rfl rfl (by decide) f.n.a [iV f.n.a] ⟨rfl,hi2⟩ (fun k u hk=>by rw [KW]; exact hp.cl hk) (by rw [hlP]; omega) (by rw [hlP]; unfold maxLen; omega) fun vp7 w7 hP7 hk7 hq7=>?_;refine ⟨.inl ((hk6.weak (by simp)).trans hk7 fun y hy _=>hy),?_⟩;have hvp1:vp7.oneCell' = true:=by obtain ⟨_,_,rfl⟩:=hP7.len; rfl
  have hL7:=(hL.kp hk6 (by simp)).kp hk7 (fun h=>fP bl (by simpa using h) (by simp));refine rV τok [9] 1 (mR 11 10) ((hk6.weak (by simp)).trans hk7 fun y hy _=>hy) ?_;refine nV τok 10 0 (mR 11 11) ?_;refine st (b:=bl) (o:=5) hL7 (by simp) hvp1 fun w8 hL8 hs8 hk8=>?_;refine ⟨.inr (by kernel_rfl),?_⟩;refine dV ?_;have hL8:Bk w8.heap bl [iV B.vars,v1,v2,iV B.nat,v3,vp7] 171:=hL8;have k57:Kp vp.ownBlock.toList w5 w7:=(hk6.weak (by simp)).trans hk7 fun y hy _=>hy;have k07:Kp [] w w7:=(k05.tr hk6).own hk7 (hP.kp hk6);have k08:Kp [] w w8:=k07.trans hk8 fun y hy hl=>by simp at hy; omega
  have hX6:∀ y ∈ [bl,bm],y < w6.heap.size:=fun y hy=>by
   have:=hk6.size;simp at hy;omega
  have fP7:=fP.up hq7 hX6;have hM7:=hM.kp k57 (fun h=>fP bm (by simpa using h) (by simp));have hT7:=Own.kpG hT bl' k57 (fun g hg hx=>dPT.symm g hg hx);have hO7:=Own.kpG hO bl' k57 (fun g hg hx=>dPO.symm g hg hx);have dPT7:Far vp7 vt.ownBlock.toList:=dPT.up hq7 fun y hy=>KZ (Own.lts hT y hy) hk6.size;have dPO7:Far vp7 vo.ownBlock.toList:=dPO.up hq7 fun y hy=>KZ (Own.lts hO y hy) hk6.size;have hM8:=hM7.kp hk8 (by simp; omega);have hP8:=Own.kpG hP7 gD' hk8 (fun g hg hx=>fP7 g hg (by simp at hx; simp [hx]));have hT8:=Own.kpG hT7 bl' hk8 (fun g hg hx=>fT g hg (by simp at hx; simp [hx]));have hO8:=Own.kpG hO7 bl' hk8 (fun g hg hx=>fO g hg (by simp at hx; simp [hx]));refine i6 ?_;refine ix j rfl (by omega) ?_;refine stI hM8 (by simp [lay1]; omega) fun w9 hM9 hs9 hk9=>?_;rw [ry' (show j < nb by omega)] at hM9;have k09:Kp [] w w9:=k08.trans hk9 fun y hy hl=>by simp at hy; omega
  have hL9:=hL8.kp hk9 (by simp; omega);have hP9:=Own.kpG hP8 gD' hk9 (fun g hg hx=>fP7 g hg (by simp at hx; simp [hx]));have hT9:=Own.kpG hT8 bl' hk9 (fun g hg hx=>fT g hg (by simp at hx; simp [hx]));have hO9:=Own.kpG hO8 bl' hk9 (fun g hg hx=>fO g hg (by simp at hx; simp [hx]));refine i6 ?_;refine ab' (cP' (hS.tr k09) hvx' hlen e1 ho0 (by simp; omega)) ?_;rintro e w10 ⟨rfl,hk10⟩;obtain ⟨a7,c7,q7,hle7,hc7,zt,hst,hTt⟩:=hvx'.cut e1;injection q7 with q1 _ q2
  subst q1 q2;obtain ⟨a9,c9,q9,hle9,hc9,zb,hsb,hTb⟩:=hvx'.cut e2;injection q9 with q1 _ q2
  subst q1 q2;obtain ⟨azt,czt,rfl,hzt1,hzt2⟩:=id hTt;obtain ⟨azb,czb,rfl,hzb1,hzb2⟩:=id hTb;refine i6 ?_;refine iq' τok rfl (x.n :: (rows (x.ks.take j) ++ [f.n])).length _ (.slice azt (row (kidD x (2 * j))).length czt) (by simp; omega) rfl (by omega) (by omega) hst ?_;refine fill [.slice azt (row (kidD x (2 * j))).length czt] rfl ?_;refine new fun bt w11 hbt ht hs11 hk11=>?_;have k911:=hk10.tr hk11;have hT11:=hT9.kp k911;refine hT11.ap1 τok rfl rfl (by decide) (.slice azt (row (kidD x (2 * j))).length czt) [.slice azt (row (kidD x (2 * j))).length czt] ⟨rfl,rfl⟩ (bZ ht) (by omega) (by simp only [maxLen]; omega) fun vt12 w12 hT12 hk12 hq12=>?_;have k012:Kp [] w w12:=(k09.tr k911).own hk12 hT11;have sz911:=k911.size;have k912:Kp vt.ownBlock.toList w9 w12:=(k911.weak (by simp)).trans hk12 fun y hy _=>hy;have hX11:∀ y ∈ [bl,bm],y < w11.heap.size:=fun y hy=>by
   have:=hk6.size;have:=hk7.size;simp at hy;omega
  have fT12:=fT.up hq12 hX11;have hL12:=hL9.kp k912 (fun h=>fT bl (by simpa using h) (by simp));have hM12:=hM9.kp k912 (fun h=>fT bm (by simpa using h) (by simp));have hP12:=Own.kpG hP9 gD' k912 (fun g hg hx=>dPT7 g hg hx);have hO12:=Own.kpG hO9 bl' k912 (fun g hg hx=>dTO.symm g hg hx);have dTP12:Far vt12 vp7.ownBlock.toList:=dPT7.symm.up hq12 fun y hy=>KZ (Own.lts hP9 y hy) sz911;have dTO12:Far vt12 vo.ownBlock.toList:=dTO.up hq12 fun y hy=>KZ (Own.lts hO9 y hy) sz911;refine ab' (cP' (hS.tr k012) hvx' hlen e2 ho1 (by simp; omega)) ?_;rintro e w13 ⟨rfl,hk13⟩;refine iq' τok rfl (x.n :: (rows (x.ks.take j) ++ (f.n :: row (kidD x (2 * j))))).length _ (.slice azb (row (kidD x (2 * j + 1))).length czb) (by simp; omega) rfl (by omega) (by omega) hsb ?_;refine fill [.slice azb (row (kidD x (2 * j + 1))).length czb] rfl ?_;refine new fun bb w14 hbb hb hs14 hk14=>?_;have k1214:=hk13.tr hk14;have hO14:=hO12.kp k1214;refine hO14.ap1 τok rfl rfl (by decide) (.slice azb (row (kidD x (2 * j + 1))).length czb) [.slice azb (row (kidD x (2 * j + 1))).length czb] ⟨rfl,rfl⟩ (bZ hb) (by omega) (by simp only [maxLen]; omega) fun vo15 w15 hO15 hk15 hq15=>?_;have k015:Kp [] w w15:=(k012.tr k1214).own hk15 hO14;have sz1214:=k1214.size;have k1215:Kp vo.ownBlock.toList w12 w15:=(k1214.weak (by simp)).trans hk15 fun y hy _=>hy;have sz12:=k1215.size;have hX14:∀ y ∈ [bl,bm],y < w14.heap.size:=fun y hy=>by
   have:=hX11 y hy;have:=hk12.size;omega
  have fO15:=fO.up hq15 hX14;have hL15:=hL12.kp k1215 (fun h=>fO bl (by simpa using h) (by simp));have hM15:=hM12.kp k1215 (fun h=>fO bm (by simpa using h) (by simp));have hP15:=Own.kpG hP12 gD' k1215 (fun g hg hx=>dPO7 g hg hx);have hT15:=Own.kpG hT12 bl' k1215 (fun g hg hx=>dTO12 g hg hx);have dOP15:Far vo15 vp7.ownBlock.toList:=dPO7.symm.up hq15 fun y hy=>KZ (Own.lts hP12 y hy) sz1214;have dOT15:Far vo15 vt12.ownBlock.toList:=dTO12.symm.up hq15 fun y hy=>KZ (Own.lts hT12 y hy) sz1214;refine i6 ?_;refine ⟨(j + 1,vp7,vt12,vo15,ost ++ [.slice azt (row (kidD x (2 * j))).length czt],osb ++ [.slice azb (row (kidD x (2 * j + 1))).length czb]),by simp only; omega,rfl,⟨rfl,rfl,rfl,rfl,rfl,rfl,?_,rfl,rfl,trivial⟩,by show j + 1 <= nb; omega,hL15,hM15,?_,hT15,?_,hO15,?_,fP7,fT12,fO15,dTP12.symm,dOP15.symm,dOT15.symm,k015,by have:=hX14 bm (by simp); have:=hk15.size; omega⟩
  ·show some (iV _) = some (iV ((1 + (rows (x.ks.take (j + 1))).length:Nat):Int))
   congr 3
   rw [e3];simp;omega
  ·rw [al' hpv]
   exact hP15
  ·rw [al' htv]
   exact Pcs.snoc hpT hzt1 hzt2
  ·rw [al' hbv]
   exact Pcs.snoc hpO hzb1 hzb2
 have g1:¬ (j:Int) < x.n.b:=g1;obtain rfl:j = nb:=by omega
 have htl:(sy' x).length = j:=by simp [sy',hnb']
 have hbl':(sA' x).length = j:=by simp [sA',hnb']
 rw [JG (by omega)] at hP hpT hpO;obtain ⟨ap,cp,rfl,hsp⟩:=hP.den (by omega);obtain ⟨ap',cp',hve,hcp⟩:=hP.cap;injection hve with q1 q2 q3
 subst q1 q3;obtain ⟨at_,ct,rfl,hst⟩:=hT.den (by omega);obtain ⟨ao,co,rfl,hso⟩:=hO.den (by omega);obtain ⟨D,hD⟩:∃ D:Mem,D = fun b o v=>C b o v \/ New w.heap.size w5 b o v:=⟨_,rfl⟩
 have hDS:Sub D w5:=by rw [hD]; exact Cn.sub hS k05
 have hCD:∀ b o v,C b o v -> D b o v:=fun b o v h=>by rw [hD]; exact .inl h
 have hND:∀ b o v,New w.heap.size w5 b o v -> D b o v:=fun b o v h=>by rw [hD]; exact .inr h
 have hmv:SV rInt D (lay1 j j) (.slice (some ⟨bm,0,none⟩) j j):=by
  have hli:∀ y ∈ lay1 j j,I64 y:=fun y hy=>by
   obtain ⟨i,hi,rfl⟩:=List.mem_map.1 hy;have:=List.mem_range.1 hi;have e:(if i < j then (100 + (i:Int)) else 0) = 100 + i:=by rw [if_pos this]
   rw [e];exact ⟨by omega,by omega⟩
  have:=tJ' hM hli (by simp [lay1]; omega) (D:=D) (fun o v hc=>hND _ _ _ ⟨by omega,by
   obtain ⟨c,T,fz,q1,q2⟩:=hc;have hM':w5.heap[bm]? = _:=hM;rw [hM'] at q1;injection q1 with q1
   injection q1 with q3 q4 q5
   subst q3 q4 q5;exact ⟨_,_,hM',q2⟩⟩)
  have e:(lay1 j j).length = j:=by simp [lay1]
  rw [e] at this;exact this
 have hlk:LkV D B (placesM x) (.agg #[iV B.vars,v1,v2,iV B.nat,v3,.slice ap (placesM x).length cp]):=⟨v1,v2,v3,_,rfl,hb1.mono hCD,hb2.mono hCD,hb3.mono hCD,ap,cp,rfl,hsp.mono hND,hcp⟩
 have hp15:∀ p ∈ placesM x,0 <= p /\ p <= 15:=fun p hp=>by
  obtain ⟨i,hi⟩:=JH hp;have hil:=ai' hi;obtain ⟨f,hf,_,_,_,_,_,q1,q2,_⟩:=mN' hx.ok h12 (i:=i) (by omega);have:(placesM x)[i]? = some f.n.a:=by simp [placesM,hf]
  rw [hi] at this;obtain rfl:=JB this;exact ⟨q1,q2⟩
 have hfine:=tH' hB hp15 (by omega) 4096;have htsl:Sl ez' D at_ ost:=hst.mono hND;have hosl:Sl ez' D ao osb:=hso.mono hND;have hcl:∀ (i:Nat) v y,ost[i]? = some v -> (sy' x)[i]? = some y -> TmV D y v:=fun i v y hv hy=>by
  obtain ⟨a,c,rfl,h1,h2⟩:=hpT.2 i v y hv hy;exact ⟨a,c,rfl,h1.mono hCD,h2⟩
 have hbl2:∀ (i:Nat) v y,osb[i]? = some v -> (sA' x)[i]? = some y -> TmV D y v:=fun i v y hv hy=>by
  obtain ⟨a,c,rfl,h1,h2⟩:=hpO.2 i v y hv hy;exact ⟨a,c,rfl,h1.mono hCD,h2⟩
 have hol:=hpO.1;have htl':=hpT.1;have hosn:osb.length = j:=by rw [hol,hbl']
 have hostn:ost.length = j:=by rw [htl',htl]
 refine lp τok (σ:=Nat) (fun i=>[(6,pt bl),(7,.slice (some ⟨bm,0,none⟩) j j),(9,.slice at_ ost.length ct),(65,.slice ao osb.length co),(66,iV (osb.length:Int)),(67,iV (i:Int))])
  (fun i w'=>i <= j /\ Kp [] w5 w' /\ dW' B x (j - i) i = RES) (fun i=>j - i) 0 rfl
  ⟨rfl,rfl,rfl,rfl,rfl,rfl,trivial⟩ ⟨KV _,Kp.refl _ _,hRES⟩ ?_
 clear hRES
 rintro i w6 ⟨hi,hk6,hres⟩;have k06:=k05.tr hk6;refine ac' (fun g2=>?_) (fun g2=>?_)
 ·have g2:(i:Int) < (osb.length:Int):=g2
  obtain ⟨f,hf,ho0,ho1,hfe,hat,h13,hfa0,hfa1,e1,e2,e3,hd⟩:=mN' hx.ok h12 (i:=i) (by omega);obtain ⟨_,_,f0,f1⟩:=bt' hx h12 (i:=i) (by omega);have hs3:=hsub (i + 1);have hp0:=ag' (kidD x (2 * i));have hp1:=ag' (kidD x (2 * i + 1));have hpv:(placesM x)[i]? = some f.n.a:=by simp [placesM,hf]
  have htv:(sy' x)[i]? = some (kidD x (2 * i)):=by unfold sy'; rw [JX,List.getElem?_range (by omega)]; rfl
  have hbv:(sA' x)[i]? = some (kidD x (2 * i + 1)):=by unfold sA'; rw [JX,List.getElem?_range (by omega)]; rfl
  obtain ⟨p,hp⟩:∃ p:Nat,f.n.a = (p:Int):=⟨f.n.a.toNat,by omega⟩
  have hok:nw' B x i = (cz' p (kidD x (2 * i)) && gh' (bY' B (placesM x) 4096) (p + 1) (kidD x (2 * i + 1)) (lay1 j j)):=by
   unfold nw';rw [hnb',List.getD_eq_getElem?_getD,hpv];simp only [Option.getD_some];rw [hp,Int.toNat_natCast]
  rw [show j - i = (j - (i + 1)) + 1 by omega] at hres;simp only [dW'] at hres;rw [hok] at hres;obtain ⟨vt',hvt',_⟩:=af' (l:=ost) (k:=i) (by omega);obtain ⟨vb',hvb',_⟩:=af' (l:=osb) (k:=i) (by omega);obtain ⟨bt,ot,rfl,hct,_⟩:=htsl.val hvt';obtain ⟨bo,oo,rfl,hco,_⟩:=hosl.val hvb';obtain ⟨bp,op,rfl,hcp',_⟩:=hsp.int hpv;have hTt:=hcl i vt' _ hvt' htv;have hTb:=hbl2 i vb' _ hvb' hbv;have hD6:=hDS.tr hk6;obtain ⟨_,_,rfl,_,_⟩:=id hTb;obtain ⟨_,_,rfl,_,_⟩:=id hTt;refine ix i rfl (by omega) ?_;refine ldC hD6 hco ?_;refine as' τok (fun z=>Kp [] w5 z) ?_;refine rV τok (rg 0 9) 14 (mR 23 9) (hk6.dr _) ?_;refine ix i rfl (by omega) ?_;refine ldK (hDS _ _ _ hct) ?_;refine lk hL ?_;refine ix i rfl (by omega) ?_;refine ldK (hDS _ _ _ (hND _ _ _ hcp')) ?_;rw [hp];refine nV τok 9 13 (mR 23 10) ?_;refine ab' (rw' (w:=(dr w6)) (Sub.dr hD6 _) f0 hTt p (by omega)) ?_;rintro e w7 ⟨rfl,hk7⟩;have hk7:Kp [] w6 w7:=hk7.rd;have k57:=hk6.tr hk7;refine ⟨.inl k57,?_⟩;obtain ⟨r0,hr0⟩:∃ r0,cz' p (kidD x (2 * i)) = r0:=⟨_,rfl⟩
  rw [hr0] at hres ⊢;cases r0 with
  | false =>
   rw [Bool.false_and,if_neg (by decide)] at hres;refine rV τok (rg 10 10) 3 (mR 23 20) k57 ?_;refine nV τok 20 2 (mR 23 21) ?_;refine ⟨.inl k57,?_⟩;refine rV τok [21,22] 0 (mR 23 23) k57 ?_;refine dV ?_;subst hres;exact ⟨rfl,k06.tr hk7⟩
  | true =>
   rw [Bool.true_and] at hres;refine rV τok (rg 10 10) 3 (mR 23 20) k57 ?_;refine dP' [iV B.vars,v1,v2,iV B.nat,v3,.slice (some ⟨bp,op,none⟩) (placesM x).length cp] rfl (bZ hL) ?_;refine lk hL ?_;refine ix i rfl (by omega) ?_;refine ldK (hDS _ _ _ (hND _ _ _ hcp')) ?_;rw [hp];refine nV τok 20 2 (mR 23 21) ?_;have hl1:(lay1 j j).length = j:=by simp [lay1]
   refine ab' (rx' hfine (hDS.tr k57) hlk f1 (tI' hpll) (by rw [hl1]; omega) (by omega) hTb hmv p (by omega)) ?_;rintro e w8 ⟨rfl,hk8⟩;have k58:=k57.tr hk8;refine ⟨.inl k58,?_⟩;obtain ⟨r1,hr1⟩:∃ r1,gh' (bY' B (placesM x) 4096) (p + 1) (kidD x (2 * i + 1)) (lay1 j j) = r1:=⟨_,rfl⟩
   rw [hr1] at hres ⊢;refine rV τok [21,22] 0 (mR 23 23) k58 ?_;refine dV ?_;cases r1 with
   | false =>
    rw [if_neg (by decide)] at hres;subst hres;exact ⟨rfl,k05.tr k58⟩
   | true =>
    rw [if_pos rfl] at hres;refine i6 ?_;exact ⟨i + 1,by omega,rfl,⟨rfl,rfl,rfl,rfl,rfl,rfl,trivial⟩,by omega,k58,hres⟩
 ·have g2:¬ (i:Int) < (osb.length:Int):=g2
  rw [show j - i = 0 by omega] at hres;simp only [dW'] at hres;subst hres;exact ⟨rfl,k06⟩
end
def bq' (ys:List Tr) (x:Tr):Except Int Tr:=if 4096 < (row (bW' 4 ys x)).length then .error 9 else .ok (bW' 4 ys x)
def psM (B:BoT) (a:Int):List Tr:=(cr' B a).params.map tr
def qiM (B:BoT) (a:Int):List Tr:=(cr' B a).indices.map tr
def sB' (B:BoT) (a:Int):Except Int Tr:=(bq' (qiM B a) (tr (cr' B a).sort)).bind (bq' (psM B a))
def varsM (n:Nat) (fr:Int):List Tr:=(List.range n).map fun k=>varX (fr + ((n - 1 - k:Nat):Int))
def agM (B:BoT) (a b:Int):List Tr:=(ctD B a b).args.map tr
def ouM (B:BoT) (a b:Int):List Tr:=(ctD B a b).out.map tr
def jr' (B:BoT) (a b:Int):Except Int Tr :=
 (aH' (.mk ⟨9,a,0⟩ []) (varsM (psM B a).length ((agM B a b).length:Int) ++ ouM B a b)).bind fun t=>(bq' (agM B a b) t).bind (bq' (psM B a))
def aS' (ps:List Tr) (more:Int):Nat -> Tr -> Except Int Tr
 | 0,t=>.ok t
 | i + 1,t=>(ay' t (aq' (ps.getD i (varX 0)) i 0) more).bind (aS' ps more i)
def bZ' (B:BoT) (a b:Int) (ps:List Tr) (mo:Tr):Except Int Tr :=
 (aH' (.mk ⟨10,a,b⟩ []) (varsM (psM B a).length ((agM B a b).length:Int) ++ varsM (agM B a b).length 0)).bind fun made =>
  (aH' (aq' mo (((psM B a).length + (agM B a b).length:Nat):Int) 0) (ouM B a b ++ [made])).bind fun t=>(bq' (agM B a b) t).bind (aS' ps 0 (psM B a).length)
theorem trs {l:List Tr} (h:∀ y ∈ l,Ok .tm y):(l.map row).map tr = l:=by
 rw [List.map_map];have:∀ y ∈ l,(tr ∘ row) y = id y:=fun y hy=>cJ' (h y hy);rw [List.map_congr_left this,List.map_id]
section
variable {B:BoT}
theorem GoodF.ps_eq {i:Nat} {x:EnT} {s:Tr} {ps qi:List Tr} (hi:B.ents[i]? = some x) (h:GoodF B i x s ps qi):psM B (i:Int) = ps /\ qiM B (i:Int) = qi /\ tr (cr' B (i:Int)).sort = s:=by
 unfold psM qiM;rw [fB' hi,h.params,h.indices,h.sort];refine ⟨trs fun y hy=>?_,trs fun y hy=>?_,cJ' h.fs.ok⟩
 ·obtain ⟨k,hk⟩:=JH hy
  exact (h.fp k y hk).ok
 ·obtain ⟨k,hk⟩:=JH hy
  exact (h.fi k y hk).ok
theorem GoodC.ag_eq {i k:Nat} {x:EnT} (hi:B.ents[i]? = some x) {np ni:Nat} {c:CtT} (hc:x.ctors[k]? = some c) {ga go:List Tr} (h:GoodC B i np ni c ga go):agM B (i:Int) (k:Int) = ga /\ ouM B (i:Int) (k:Int) = go /\ ctD B (i:Int) (k:Int) = c:=by
 have hcD:ctD B (i:Int) (k:Int) = c:=by simp [ctD,fB' hi,hc]
 unfold agM ouM;rw [hcD,h.args,h.out];refine ⟨trs fun y hy=>?_,trs fun y hy=>(h.fo y hy).ok,rfl⟩;obtain ⟨k,hk⟩:=JH hy;exact (h.fa k y hk).ok
theorem bN' {Q:Nd -> Prop} {N:Int} (hQ:Qk Q) {ys:List Tr} {x z:Tr} (hx:Ft Q (N + ys.length) x) (hy:∀ (i:Nat) y,ys[i]? = some y -> Ft Q (N + i) y) (h:bq' ys x = .ok z):Ft Q N z:=by
 unfold bq' at h;split at h
 ·cases h
 ·injection h with h
  subst h;exact Ft.bind hQ (.inl rfl) hx hy (by omega)
theorem pu' (hB:GoodB B) {a:Int} (ha:ev' B B.ents.length a = true) {z:Tr} (h:sB' B a = .ok z):Ft (QB B) 0 z:=by
 obtain ⟨i,x,s,ps,qi,rfl,_,hi,hxD,hF⟩:=hB.fam ha (KJ _);obtain ⟨e1,e2,e3⟩:=hF.ps_eq hi;unfold sB' at h;rw [e1,e2,e3] at h;cases hb:bq' qi s with
 | error er=>rw [hb] at h; cases h
 | ok t =>
  rw [hb] at h;have hs:Ft (QB B) 0 s:=hF.fs.wk fun m hm=>dV' (Nat.le_of_lt (ai' hi)) hm;have ht:=bN' (qk B) (N:=(ps.length:Int)) (hs.mono (by omega)) (fun k y hy=>(hF.up_i hB hi hy).mono (by simp)) hb;exact bN' (qk B) (N:=0) (ht.mono (by omega)) (fun k y hy=>(hF.up_p hB hi hy).mono (by omega)) h
theorem dh' {Q:Nd -> Prop} (hQ:Qk Q) {n:Nat} {fr:Int} (h0:0 <= fr) (hl:fr + n <= 1000):∀ y ∈ varsM n fr,Ft Q (fr + n) y:=fun y hy=>by
 obtain ⟨k,hk,rfl⟩:=List.mem_map.1 hy;have:=List.mem_range.1 hk;exact Ft.varX hQ (by omega) (by omega) (by omega)
theorem hE' {Q:Nd -> Prop} {N:Int} {n:Nd} (hp:ah' n = true) (h9:n.op = 9 \/ n.op = 10) (hq:Q n):Ft Q N (.mk n []) :=
 Ft.one hp (by omega) (by omega) (by omega) (by rcases h9 with h | h <;> simp [ar',h]) hq fun h=>by omega
theorem fg' (hB:GoodB B) {a:Int} (ha:ev' B B.ents.length a = true):0 <= a /\ a <= 63:=by
 simp only [ev',Bool.and_eq_true,decide_eq_true_eq] at ha;have:=hB.len;omega
theorem pv' (hB:GoodB B) {a b:Int} (ha:ev' B B.ents.length a = true) (hb0:0 <= b) (hb:b < (cr' B a).ctors.length) {z:Tr} (h:jr' B a b = .ok z):Ft (QB B) 0 z:=by
 have hal:=fg' hB ha;obtain ⟨i,x,s,ps,qi,rfl,_,hi,hxD,hF⟩:=hB.fam ha (KJ _);obtain ⟨e1,e2,e3⟩:=hF.ps_eq hi;obtain ⟨k,rfl⟩:∃ k:Nat,b = (k:Int):=⟨b.toNat,by omega⟩
 rw [hxD] at hb;obtain ⟨c,hc,_⟩:=af' (l:=x.ctors) (k:=k) (by omega);obtain ⟨ga,go,hC⟩:=hF.ct k c hc;obtain ⟨e4,e5,e6⟩:=hC.ag_eq hi hc;have hlp:=hF.lp;have hla:=hC.la;unfold jr' at h;rw [e1,e4,e5] at h;cases h1:aH' (.mk ⟨9,(i:Int),0⟩ []) (varsM ps.length (ga.length:Int) ++ go) with
 | error er=>rw [h1] at h; cases h
 | ok t =>
  rw [h1] at h;have hi9:Ft (QB B) ((ps.length + ga.length:Nat):Int) (.mk ⟨9,(i:Int),0⟩ []):=hE' (by simp [ah',inR]; omega) (.inl rfl) (by
   simp only [QB,aZ',bR'];simp [ha])
  have ht:=aL' (qk B) hi9 (fun y hy=>by
   rcases List.mem_append.1 hy with hy | hy
   ·exact (dh' (qk B) (by omega) (by omega) y hy).mono (by omega)
   ·exact hC.up_o hi hF.kind hy) h1
  cases h2:bq' ga t with
  | error er=>rw [show (Except.ok t).bind _ = (bq' ga t).bind (bq' ps) from rfl,h2] at h; cases h
  | ok u =>
   rw [show (Except.ok t).bind _ = (bq' ga t).bind (bq' ps) from rfl,h2] at h;have hu:=bN' (qk B) (N:=(ps.length:Int)) (ht.mono (by omega)) (fun k y hy=>(hC.up_a hi hF.kind hy).mono (by omega)) h2;exact bN' (qk B) (N:=0) (hu.mono (by omega)) (fun k y hy=>(hF.up_p hB hi hy).mono (by omega)) h
theorem js' {Q:Nd -> Prop} {N more:Int} (hQ:Qk Q) (h0:0 <= N) (hN:N <= 90000) (hm:0 <= more) (hm1:more <= 1000) {ps:List Tr} (hp:∀ y ∈ ps,Ft Q N y):∀ (i:Nat) (t z:Tr),i <= ps.length -> i <= 1000 -> Ft Q (N + i + more) t -> aS' ps more i t = .ok z -> Ft Q (N + more) z
 | 0,t,z,_,_,ht,h=>by
  simp only [aS',Except.ok.injEq] at h;subst h;exact ht.mono (by simp)
 | i + 1,t,z,hi,hi1,ht,h=>by
  simp only [aS'] at h;obtain ⟨p,hpi,_⟩:=af' (l:=ps) (k:=i) (by omega);have e:ps.getD i (varX 0) = p:=by rw [List.getD_eq_getElem?_getD,hpi]; rfl
  rw [e] at h;have hl:=(hp p (JQ hpi)).lift hQ (b:=(i:Int)) (by omega) (by omega) (by omega);cases hs:ay' t (aq' p i 0) more with
  | error er=>rw [hs] at h; cases h
  | ok y =>
   rw [hs] at h;have hy:=az' hQ (N:=N + i) (v:=more) (ht.mono (by omega)) hl (by omega) (by omega) hm (by omega) hs;exact js' hQ h0 hN hm hm1 hp i y z (by omega) (by omega) hy h
theorem fh' (hB:GoodB B) {N:Int} (h0:0 <= N) (hN:N <= 90000) {a b:Int} (ha:ev' B B.ents.length a = true) (hb0:0 <= b) (hb:b < (cr' B a).ctors.length) {qs:List Tr} (hq:∀ y ∈ qs,Ft (QB B) N y) (hql:qs.length = (psM B a).length) {mo:Tr} (hmo:Ft (QB B) N mo) {z:Tr} (h:bZ' B a b qs mo = .ok z):Ft (QB B) N z:=by
 have hal:=fg' hB ha;obtain ⟨i,x,s,ps,qi,rfl,_,hi,hxD,hF⟩:=hB.fam ha (KJ _);obtain ⟨e1,e2,e3⟩:=hF.ps_eq hi;obtain ⟨k,rfl⟩:∃ k:Nat,b = (k:Int):=⟨b.toNat,by omega⟩
 have hb':=hb;rw [hxD] at hb;obtain ⟨c,hc,_⟩:=af' (l:=x.ctors) (k:=k) (by omega);obtain ⟨ga,go,hC⟩:=hF.ct k c hc;obtain ⟨e4,e5,e6⟩:=hC.ag_eq hi hc;have hlp:=hF.lp;have hla:=hC.la;have hlc:=hF.lc;unfold bZ' at h;rw [e1,e4,e5] at h;rw [e1] at hql;cases h1:aH' (.mk ⟨10,(i:Int),(k:Int)⟩ []) (varsM ps.length (ga.length:Int) ++ varsM ga.length 0) with
 | error er=>rw [h1] at h; cases h
 | ok made =>
  rw [h1] at h;have hi9:Ft (QB B) ((ps.length + ga.length:Nat):Int) (.mk ⟨10,(i:Int),(k:Int)⟩ []):=hE' (by simp [ah',inR]; omega) (.inr rfl) (by
   simp only [QB,aZ',bR'];simp [ha,hxD];omega)
  have hmd:=aL' (qk B) hi9 (fun y hy=>by
   rcases List.mem_append.1 hy with hy | hy
   ·exact (dh' (qk B) (by omega) (by omega) y hy).mono (by omega)
   ·exact (dh' (qk B) (by omega) (by omega) y hy).mono (by omega)) h1
  have hm:=hmo.lift (qk B) (b:=((ps.length + ga.length:Nat):Int)) (by omega) (by omega) (by omega);cases h2:aH' (aq' mo ((ps.length + ga.length:Nat):Int) 0) (go ++ [made]) with
  | error er=>rw [show (Except.ok made).bind _ = (aH' (aq' mo ((ps.length + ga.length:Nat):Int) 0) (go ++ [made])).bind _ from rfl,h2] at h; cases h
  | ok t =>
   rw [show (Except.ok made).bind _ = (aH' (aq' mo ((ps.length + ga.length:Nat):Int) 0) (go ++ [made])).bind _ from rfl,h2] at h;have ht:=aL' (qk B) hm (fun y hy=>by
    rcases List.mem_append.1 hy with hy | hy
    ·exact (hC.up_o hi hF.kind hy).mono (by omega)
    ·obtain rfl:y = made:=by simpa using hy
     exact hmd.mono (by omega)) h2
   cases h3:bq' ga t with
   | error er=>rw [show (Except.ok t).bind _ = (bq' ga t).bind (aS' qs 0 ps.length) from rfl,h3] at h; cases h
   | ok u =>
    rw [show (Except.ok t).bind _ = (bq' ga t).bind (aS' qs 0 ps.length) from rfl,h3] at h;have hu:=bN' (qk B) (N:=N + ps.length) (ht.mono (by omega)) (fun k y hy=>(hC.up_a hi hF.kind hy).mono (by omega)) h3;have:=js' (qk B) (more:=0) h0 hN (by omega) (by omega) hq ps.length u z (by omega) (by omega) (hu.mono (by omega)) h;exact this.mono (by omega)
end
def VsO (C:Mem) (n0:Nat) (w:World) (v:Value) (ys:List Tr):Prop:=∃ os,Own ez' 29 n0 w v os /\ Pcs (fun b o t=>(C b o t \/ New n0 w b o t) /\ some b ≠ v.ownBlock) os ys
section
variable {C:Mem} {n0:Nat} {w w':World} {v:Value} {ys:List Tr}
theorem VsO.nil (h:n0 <= w.heap.size):VsO C n0 w (.slice none 0 0) []:=⟨[],Own.nil _ _ h,⟨rfl,fun i v y hv=>by simp at hv⟩⟩
theorem VsO.kp (h:VsO C n0 w v ys) (k:Kp [] w w'):VsO C n0 w' v ys:=by
 obtain ⟨os,h1,h2⟩:=h;exact ⟨os,h1.kp k,h2.mono fun b o t ht=>⟨ht.1.imp_right fun q=>⟨q.1,q.2.kp k (by simp)⟩,ht.2⟩⟩
theorem VsO.low (h:VsO C n0 w v ys) {n1:Nat} (hn:n1 <= n0):VsO C n1 w v ys:=by
 obtain ⟨os,h1,h2⟩:=h;exact ⟨os,h1.low' hn,h2.mono fun b o t ht=>⟨ht.1.imp_right fun q=>⟨KQ hn q.1,q.2⟩,ht.2⟩⟩
theorem VsO.len (h:VsO C n0 w v ys):∃ a c,v = .slice a ys.length c:=by
 obtain ⟨os,h1,h2⟩:=h;rw [<- h2.1];exact h1.len
theorem VsO.tms (h:VsO C n0 w v ys) (hl:ys.length <= 1000000):TmsV (fun b o t=>C b o t \/ New n0 w b o t) ys v:=by
 obtain ⟨os,h1,h2⟩:=h;exact Own.tms h1 (h2.mono fun b o t ht=>ht.1) (fun b o t ht=>.inr ht) (by rw [h2.1]; exact hl)
theorem VsO.blk (h:VsO C n0 w v ys):∀ g,v.ownBlock = some g -> n0 <= g /\ g < w.heap.size:=by
 obtain ⟨os,h1,h2⟩:=h;exact h1.block
theorem VsO.more (h:VsO C n0 w v ys) (hC:∀ b o t,C b o t -> b < n0) {zs:List Tr} {u:Value} (hu:TmsV (fun b o t=>(C b o t \/ New n0 w b o t) /\ some b ≠ v.ownBlock) zs u) (hS:Sub C w) (hl:ys.length + zs.length <= 1000000) {ty:Nat} {k:Value -> World -> Prop}
  (hk:∀ v' w',VsO C n0 w' v' (ys ++ zs) -> Kp v.ownBlock.toList w w' -> k v' w'):EvRun Tryz.prog (Builtin.append_ #[52,52] ty #[v,u]) w k:=by
 obtain ⟨os,h1,h2⟩:=h;obtain ⟨a,c,vs,rfl,hc,hs,hp⟩:=hu.vals;have hn0:=h1.low;have hlo:=h2.1;have hlz:=hp.1;have hall:Sub (fun b o t=>(C b o t \/ New n0 w b o t) /\ some b ≠ v.ownBlock) w:=fun b o t ht=>ht.1.elim (hS b o t) fun q=>q.2.cl;rw [<- hp.1];refine h1.apF τok rfl rfl (by decide) bl' hall vs hs (by omega) (by unfold maxLen; omega) fun v' w' hO' hk' hq=>hk v' w' ⟨os ++ vs,hO',?_⟩ hk';have up:∀ b o t,(C b o t \/ New n0 w b o t) /\ some b ≠ v.ownBlock -> (C b o t \/ New n0 w' b o t) /\ some b ≠ v'.ownBlock:=fun b o t ht=>by
  have hbl:b < w.heap.size:=ht.1.elim (fun q=>KZ (hC _ _ _ q) hn0) fun q=>q.2.lt;refine ⟨ht.1.imp_right fun q=>⟨q.1,q.2.kp hk' fun hb=>ht.2 (by simpa using (by simpa using hb:v.ownBlock = some b).symm)⟩,fun e=>?_⟩;rcases hq with q | q
  ·exact ht.2 (by rw [e,q])
  ·rw [q] at e
   have:=JB e;omega
 exact Pcs.app (h2.mono up) (hp.mono up)
theorem VsO.one (h:VsO C n0 w v ys) (hC:∀ b o t,C b o t -> b < n0) (hS:Sub C w) {z:Tr} {u:Value} (hu:TmV (fun b o t=>(C b o t \/ New n0 w b o t) /\ some b ≠ v.ownBlock) z u) (hl:ys.length + 1 <= 1000000) {ty:Nat} {bx:Nat} {T:Nat} (hX:Bk w.heap bx [u] T) {k:Value -> World -> Prop}
  (hk:∀ v' w',VsO C n0 w' v' (ys ++ [z]) -> Kp v.ownBlock.toList w w' -> k v' w'):EvRun Tryz.prog (Builtin.append_ #[52,52] ty #[v,.slice (some ⟨bx,0,none⟩) 1 1]) w k:=by
 obtain ⟨os,h1,h2⟩:=h;have hn0:=h1.low;have hlo:=h2.1;have huu:=hu;obtain ⟨a,c,rfl,hs,hc⟩:=hu;refine h1.ap1 τok rfl rfl (by decide) (.slice a (row z).length c) [.slice a (row z).length c] ⟨rfl,rfl⟩ (bZ hX) (by omega) (by unfold maxLen; omega) fun v' w' hO' hk' hq=>hk v' w' ⟨os ++ [.slice a (row z).length c],hO',?_⟩ hk';have up:∀ b o t,(C b o t \/ New n0 w b o t) /\ some b ≠ v.ownBlock -> (C b o t \/ New n0 w' b o t) /\ some b ≠ v'.ownBlock:=fun b o t ht=>by
  have hbl:b < w.heap.size:=ht.1.elim (fun q=>KZ (hC _ _ _ q) hn0) fun q=>q.2.lt;refine ⟨ht.1.imp_right fun q=>⟨q.1,q.2.kp hk' fun hb=>ht.2 (by simpa using (by simpa using hb:v.ownBlock = some b).symm)⟩,fun e=>?_⟩;rcases hq with q | q
  ·exact ht.2 (by rw [e,q])
  ·rw [q] at e
   have:=JB e;omega
 exact Pcs.snoc (h2.mono up) (hs.mono up) hc
theorem tm1 {D:Mem} {b T:Nat} {n:Nd} (hB:Bk w.heap b [iV n.op,iV n.a,iV n.b] T) (hi:I64 n.op /\ I64 n.a /\ I64 n.b) (hD:∀ o t,Cu w.heap b o t -> D b o t):TmV D (.mk n []) (.slice (some ⟨b,0,none⟩) 1 1):=by
 refine ⟨some ⟨b,0,none⟩,1,by simp [row,rows],⟨by simp [row,rows],.inr ⟨b,0,rfl,fun i q hq=>?_⟩⟩,by simp [row,rows]⟩
 match i,hq with
 | 0,hq =>
  obtain rfl:n = q:=by simpa [row,rows] using hq
  refine ⟨_,⟨rfl,hi⟩,fun j u hj=>hD _ _ ?_⟩;rw [Nat.zero_mul,Nat.add_zero,KW];exact hB.cu hj
 | i + 1,hq=>simp [row,rows] at hq
end
section
variable {C:Mem} {w:World} {B:BoT}
theorem kB' {n:Nat} {fr:Int} {k:Nat} (h:k < n):(varsM n fr)[k]? = some (varX (fr + ((n - 1 - k:Nat):Int))):=by
 unfold varsM;rw [JX,List.getElem?_range h]
 rfl
theorem lE' (hS:Sub C w) (hold:∀ b o v,C b o v -> b < w.heap.size) (n:Nat) (fr:Int) (hn:n <= 100) (h0:0 <= fr) (hf:fr <= 1000) :
  CC 74 #[iV (n:Int),iV fr] w (fun e w'=>(∃ v,e = .returned v /\ VsO C w.heap.size w' v (varsM n fr)) /\ Kp [] w w'):=by
 refine oF Tryz.func74 ?_;have hvl:(varsM n fr).length = n:=by simp [varsM]
 refine cO (args:=[_,_]) 22 [.tmp 4] τok Tryz.func74 ?_;refine i6 ?_;refine lp τok (σ:=Nat × Value) (fun q=>[(1,iV fr),(5,q.2),(6,iV ((q.1:Int) - 1))])
  (fun q w'=>q.1 <= n /\ VsO C w.heap.size w' q.2 ((varsM n fr).take (n - q.1)) /\ Kp [] w w') (fun q=>q.1) (n,.slice none 0 0) rfl
  ⟨rfl,rfl,rfl,trivial⟩ ⟨KJ _,by simpa using VsO.nil (KJ _),Kp.refl _ _⟩ ?_
 rintro ⟨j,v⟩ w1 ⟨hj,hV,hk1⟩;simp only at hj hV;refine ac' (fun g=>?_) (fun g=>?_)
 ·have g:(0:Int) <= (j:Int) - 1:=g
  obtain ⟨i,rfl⟩:∃ i,j = i + 1:=⟨j - 1,by omega⟩
  have e0:((i + 1:Nat):Int) - 1 = (i:Int):=by omega
  rw [e0];have hget:=kB' (n:=n) (fr:=fr) (k:=n - (i + 1)) (by omega);rw [show n - 1 - (n - (i + 1)) = i by omega] at hget;refine i6 ?_;refine fill [iV 1,iV (fr + (i:Int)),iV 0] rfl ?_;refine new fun b2 w2 hb2 h2 hs2 hk2=>?_;refine fill [.slice (some ⟨b2,0,none⟩) 1 1] rfl ?_;refine new fun b3 w3 hb3 h3 hs3 hk3=>?_;have k13:=hk2.tr hk3;have hV3:=hV.kp k13;have hb2n:w.heap.size <= b2:=by have:=hk1.size; omega
  have hbl:=hV.blk;refine hV3.one hold (hS.tr (hk1.tr k13)) (z:=varX (fr + i)) (tm1 (n:=⟨1,fr + i,0⟩) (h2.kp hk3 (by simp)) ⟨⟨by simp,by simp⟩,⟨by simp only; omega,by simp only; omega⟩,⟨by simp,by simp⟩⟩ fun o t ht=>⟨.inr ⟨hb2n,ht⟩,fun e=>by have:=(hbl b2 e.symm).2; omega⟩) (by simp; omega) h3 fun v4 w4 hV4 hk4=>?_;refine i6 ?_;have hbl3:=hV3.blk;refine ⟨(i,v4),by simp only; omega,rfl,⟨rfl,rfl,rfl,trivial⟩,by show i <= n; omega,?_,(hk1.tr k13).trans hk4 fun x hx hl=>?_⟩
  ·have:=al' hget
   rw [show n - (i + 1) + 1 = n - i by omega] at this;simp only;rw [this];exact hV4
  ·have:=(hbl3 x (by simpa using hx)).1
   omega
 ·have g:¬ (0:Int) <= (j:Int) - 1:=g
  obtain rfl:j = 0:=by omega
  rw [Nat.sub_zero,JG (by omega)] at hV;exact ⟨⟨v,rfl,hV⟩,hk1⟩
def TyP (C:Mem) (w:World) (r:Except Int Tr) (e:Ending) (w':World):Prop :=
 (match r with
  | .ok z=>∃ u,e = .returned (.tuple #[u,iV 0]) /\ TmV (Cn C w w') z u
  | .error er=>e = .returned (.tuple #[.slice none 0 0,iV er]) /\ er ≠ 0) /\ Kp [] w w'
theorem iD' (hS:Sub C w) {x:Tr} {ys:List Tr} (hx:Ok .tm x) (hl:(row x).length <= 4096) (hy:∀ y ∈ ys,Ok .tm y /\ (row y).length <= 4096) (hn:ys.length <= 100000) {v u:Value} (hv:TmV C x v) (hu:TmsV C ys u) :
  CC 60 #[iV 4,u,v] w (TyP C w (bq' ys x)):=by
 obtain ⟨q1,q2⟩:=uZ' (op:=4) hS (.inl rfl) hx hl hy hn hv hu;refine ⟨q1,q2.mono fun e w' h=>⟨?_,h.2⟩⟩;obtain ⟨h,hk⟩:=h;unfold bq';split at h
 ·rename_i g
  rw [if_pos g];exact ⟨h,by decide⟩
 ·rename_i g
  rw [if_neg g];obtain ⟨z,rfl,hz⟩:=h;exact ⟨z,rfl,hz.cn (KJ _)⟩
theorem dC' (hS:Sub C w) {Q:Nd -> Prop} {N:Int} {x:Tr} {ys:List Tr} (hx:Ft Q N x) (hy:∀ y ∈ ys,Ft Q N y) (hn:ys.length <= 100000) {v u:Value} (hv:TmV C x v) (hu:TmsV C ys u) :
  CC 73 #[v,u] w (TyP C w (aH' x ys)):=by
 obtain ⟨q1,q2⟩:=lv' hS hx hy hn hv hu;refine ⟨q1,q2.mono fun e w' h=>⟨?_,h.2⟩⟩;obtain ⟨h,hk⟩:=h;unfold aH';split at h
 ·rename_i g
  rw [if_pos g];exact ⟨h,by decide⟩
 ·rename_i g
  rw [if_neg g];obtain ⟨z,rfl,hz⟩:=h;exact ⟨z,rfl,hz.cn (KJ _)⟩
theorem jt' (hS:Sub C w) (hold:∀ b o v,C b o v -> b < w.heap.size) {Q:Nd -> Prop} {N:Int} {x u:Tr} {v:Int} (hx:Ft Q (N + 1 + v) x) (hu:Ft Q N u) (hN:N <= 100000) {vx vu:Value} (hvx:TmV C x vx) (hvu:TmV C u vu) (hv:0 <= v /\ v <= 300000) :
  CC 63 #[vx,vu,iV v] w (TyP C w (ay' x u v)):=by
 obtain ⟨q1,q2⟩:=je' hS hold hx hu hN hvx hvu hv;refine ⟨q1,q2.mono fun e w' h=>⟨?_,h.2⟩⟩;obtain ⟨h,hk⟩:=h;unfold ay';split at h
 ·rename_i g
  rw [if_pos g];exact ⟨h,by decide⟩
 ·rename_i g
  rw [if_neg g];obtain ⟨z,rfl,hz⟩:=h;exact ⟨z,rfl,hz.cn (KJ _)⟩
theorem Cn.two {D:Mem} {w1 w2:World} (k:Kp [] w1 w2) (hw:w.heap.size <= w1.heap.size) {b o:Nat} {v:Value} (h:Cn (Cn C w w1) w1 w2 b o v):Cn C w w2 b o v :=
 h.elim (fun h=>h.up k) fun h=>.inr ⟨KQ hw h.1,h.2⟩
theorem ny' (hB:GoodB B) (hS:Sub C w) {vb:Value} (hvb:BoV C B vb) {a:Int} (ha:ev' B B.ents.length a = true) :
  CC 54 #[vb,iV a] w (TyP C w (sB' B a)):=by
 refine oF Tryz.func54 ?_;obtain ⟨i,x,s,ps,qi,rfl,_,hi,hxD,hF⟩:=hB.fam ha (KJ _);obtain ⟨e1,e2,e3⟩:=hF.ps_eq hi;obtain ⟨RES,hRES⟩:∃ r,sB' B (i:Int) = r:=⟨_,rfl⟩
 rw [hRES];unfold sB' at hRES;rw [e1,e2,e3] at hRES;obtain ⟨v1,v2,v3,rfl,hb1,hb2,hb3⟩:=hvb;obtain ⟨be,oe,ce,rfl,hat⟩:=hb2.at hi;obtain ⟨w1e,w2e,w3e,w4e,w5e,w6e,hcs,hki,hso,hpa,hin,hct,hty,hbo⟩:=eB' hat;rw [hF.sort] at hso;rw [hF.params] at hpa;rw [hF.indices] at hin;have hpa:=TmsV.sv.2 hpa;have hin:=TmsV.sv.2 hin;have hso:=TmV.sv.2 hso;have hone:∀ v ∈ [iV x.kind,w1e,w2e,w3e,w4e,w5e,w6e],v.oneCell' = true:=fun v hv=>by
  simp at hv;rcases hv with rfl | rfl | rfl | rfl | rfl | rfl | rfl
  ·rfl
  ·exact (TmV.sv.1 hso).one
  ·exact (TmsV.sv.1 hpa).one
  ·exact (TmsV.sv.1 hin).one
  ·exact hct.one
  ·exact hty.one
  ·exact hbo.one
 have hlp:=hF.lp;have hli:=hF.li;refine cO (args:=[_,_]) 31 [.tmp 4,.tmp 5] τok Tryz.func54 ?_;refine new fun b2 w1 hb2' h2 hs1 hk1=>?_;have h2:Bk w1.heap b2 [iV B.vars,v1,.slice (some ⟨be,oe,none⟩) B.ents.length ce,iV B.nat,v3] 26:=h2;refine lb h2 ?_;refine ix i rfl (ai' hi) ?_;refine ldN _ rfl (fun j v hj=>hS.tr hk1 _ _ _ (hcs j v hj)) ?_;refine new fun b6 w2 hb6 h6 hs2 hk2=>?_;refine stN (vs:=[iV x.kind,w1e,w2e,w3e,w4e,w5e,w6e]) h6 rfl hone fun w3 h6 hs3 hk3=>?_;have k03:=hk1.tr (hk2.newSt hb6 hk3);refine lb h6 ?_;refine lb h6 ?_;refine ab' (iD' (hS.tr k03) hF.fs.ok hF.fs.len (fun y hy=>by
  obtain ⟨k,hk⟩:=JH hy;exact ⟨(hF.fi k y hk).ok,(hF.fi k y hk).len⟩) (by omega) hso hin) ?_
 rintro e w4 ⟨he,hk4⟩;have k04:=k03.tr hk4;cases hb:bq' qi s with
 | error er =>
  rw [hb] at he hRES;obtain ⟨rfl,her⟩:=he;have hRES:(.error er:Except Int Tr) = RES:=hRES;subst hRES;refine au' (p:=er ≠ 0) her ?_;exact ⟨⟨rfl,her⟩,k04⟩
 | ok t =>
  rw [hb] at he hRES;obtain ⟨u,rfl,hu⟩:=he;have hs:Ft (QB B) 0 s:=hF.fs.wk fun m hm=>dV' (Nat.le_of_lt (ai' hi)) hm;have ht:=bN' (qk B) (N:=(ps.length:Int)) (hs.mono (by omega)) (fun k y hy=>(hF.up_i hB hi hy).mono (by simp)) hb;have h6:=h6.kp hk4 (by simp);refine lb h6 ?_;have hC4:Sub (Cn C w w4) w4:=Cn.sub hS k04;have hb2':=iD' hC4 ht.ok ht.len (fun y hy=>by
   obtain ⟨k,hk⟩:=JH hy;exact ⟨(hF.fp k y hk).ok,(hF.fp k y hk).len⟩) (by omega) (hu.mono fun b o v h=>h.elim .inl fun h=>.inr ⟨KQ k03.size h.1,h.2⟩) (hpa.mono fun _ _ _ h=>.inl h)
  have hRES:bq' ps t = RES:=hRES;rw [hRES] at hb2';refine ab' hb2' ?_;rintro e w5 ⟨he,hk5⟩;have k05:=k04.tr hk5;cases RES with
  | error er =>
   obtain ⟨rfl,her⟩:=he;exact ⟨⟨rfl,her⟩,k05⟩
  | ok z =>
   obtain ⟨u,rfl,hu⟩:=he;exact ⟨⟨u,rfl,hu.mono fun b o v h=>Cn.two (D:=C) hk5 k04.size h⟩,k05⟩
end
theorem VsO.empty {C:Mem} {n0:Nat} {w:World} {b:Nat} (hb:Bk w.heap b [] 29) (h:n0 <= b):VsO C n0 w (.slice (some ⟨b,0,none⟩) 0 0) []:=⟨[],Own.empty ez' hb h,⟨rfl,fun i v y hv=>by simp at hv⟩⟩
section
variable {C:Mem} {w:World} {B:BoT}
theorem lF' (hB:GoodB B) (hS:Sub C w) (hold:∀ b o v,C b o v -> b < w.heap.size) {vb:Value} (hvb:BoV C B vb) {a b:Int} (ha:ev' B B.ents.length a = true) (hb0:0 <= b) (hbl:b < (cr' B a).ctors.length) :
  CC 55 #[vb,iV a,iV b] w (TyP C w (jr' B a b)):=by
 refine oF Tryz.func55 ?_;have hal:=fg' hB ha;obtain ⟨i,x,s,ps,qi,rfl,_,hi,hxD,hF⟩:=hB.fam ha (KJ _);obtain ⟨e1,e2,e3⟩:=hF.ps_eq hi;obtain ⟨k,rfl⟩:∃ k:Nat,b = (k:Int):=⟨b.toNat,by omega⟩
 rw [hxD] at hbl;obtain ⟨c,hc,_⟩:=af' (l:=x.ctors) (k:=k) (by omega);obtain ⟨ga,go,hC⟩:=hF.ct k c hc;obtain ⟨e4,e5,e6⟩:=hC.ag_eq hi hc;have hlp:=hF.lp;have hla:=hC.la;have hli:=hF.li;have hlo:=hC.lo;obtain ⟨RES,hRES⟩:∃ r,jr' B (i:Int) (k:Int) = r:=⟨_,rfl⟩
 rw [hRES];unfold jr' at hRES;rw [e1,e4,e5] at hRES;obtain ⟨r1,hr1⟩:∃ r,aH' (.mk ⟨9,(i:Int),0⟩ []) (varsM ps.length (ga.length:Int) ++ go) = r:=⟨_,rfl⟩
 rw [hr1] at hRES;have hi9:Ft (QB B) ((ps.length + ga.length:Nat):Int) (.mk ⟨9,(i:Int),0⟩ []):=hE' (by simp [ah',inR]; omega) (.inl rfl) (by
  simp only [QB,aZ',bR'];simp [ha])
 have hys:∀ y ∈ varsM ps.length (ga.length:Int) ++ go,Ft (QB B) ((ps.length + ga.length:Nat):Int) y:=fun y hy=>by
  rcases List.mem_append.1 hy with hy | hy
  ·exact (dh' (qk B) (by omega) (by omega) y hy).mono (by omega)
  ·exact hC.up_o hi hF.kind hy
 obtain ⟨v1,v2,v3,rfl,hb1,hb2,hb3⟩:=hvb;obtain ⟨be,oe,ce,rfl,hat⟩:=hb2.at hi;obtain ⟨w1e,w2e,w3e,w4e,w5e,w6e,hcs,hki,hso,hpa,hin,hct,hty,hbo⟩:=eB' hat;rw [hF.params] at hpa;obtain ⟨bc,oc,cc,rfl,hca⟩:=hct.at hc;obtain ⟨va,vo,hccs,hva,hvo⟩:=jg' hca;rw [hC.args] at hva;rw [hC.out] at hvo;have hpa:=TmsV.sv.2 hpa;have hva:=TmsV.sv.2 hva;have hvo:=TmsV.sv.2 hvo;have hone:∀ v ∈ [iV x.kind,w1e,w2e,w3e,.slice (some ⟨bc,oc,none⟩) x.ctors.length cc,w5e,w6e],v.oneCell' = true:=fun v hv=>by
  simp at hv;rcases hv with rfl | rfl | rfl | rfl | rfl | rfl | rfl
  ·rfl
  ·exact hso.one
  ·exact (TmsV.sv.1 hpa).one
  ·exact hin.one
  ·rfl
  ·exact hty.one
  ·exact hbo.one
 have hone2:∀ v ∈ [va,vo],v.oneCell' = true:=fun v hv=>by
  simp at hv;rcases hv with rfl | rfl
  ·exact (TmsV.sv.1 hva).one
  ·exact (TmsV.sv.1 hvo).one
 obtain ⟨ap,cp,rfl,_,_⟩:=id hpa;obtain ⟨aa,ca,rfl,_,_⟩:=id hva;obtain ⟨ao,co,rfl,_,_⟩:=id hvo;refine ee' (args:=[_,_,_]) 58 [.tmp 6,.tmp 7] Tryz.func55 rfl rfl rfl (Nat.le_of_ble_eq_true rfl) ?_;refine bi' τok ?_;refine new fun b3 w1 hb3' h3 hs1 hk1=>?_;have h3:Bk w1.heap b3 [iV B.vars,v1,.slice (some ⟨be,oe,none⟩) B.ents.length ce,iV B.nat,v3] 26:=h3;refine bi' τok ?_;refine lb h3 ?_;refine ix i rfl (ai' hi) ?_;refine ldN _ rfl (fun j v hj=>hS.tr hk1 _ _ _ (hcs j v hj)) ?_;refine new fun b8 w2 hb8 h8 hs2 hk2=>?_;refine stN (vs:=[iV x.kind,w1e,.slice ap ps.length cp,w3e,.slice (some ⟨bc,oc,none⟩) x.ctors.length cc,w5e,w6e]) h8 rfl hone fun w3 h8 hs3 hk3=>?_;have k13:=hk2.newSt hb8 hk3;have k03:=hk1.tr k13;refine bi' τok ?_;refine lb h8 ?_;refine ix k rfl (ai' hc) ?_;refine ldN _ rfl (fun j v hj=>hS.tr k03 _ _ _ (hccs j v hj)) ?_;refine new fun b9 w4 hb9 h9 hs4 hk4=>?_;refine stN (vs:=[.slice aa ga.length ca,.slice ao go.length co]) h9 rfl hone2 fun w5 h9 hs5 hk5=>?_;have k35:=hk4.newSt hb9 hk5;have k05:=k03.tr k35;have h8:=h8.kp k35 (by simp);have hS5:=hS.tr k05;have hold5:∀ b o t,C b o t -> b < w5.heap.size:=Kp.hold k05 hold;refine fM' τok (σ:=Value × Int) (fun q=>[(8,pt b8),(9,pt b9),(10,q.1),(11,iV q.2)])
  (fun q w'=>(match r1 with
   | .ok t=>q.2 = 0 /\ TmV (Cn C w w') t q.1
   | .error er=>q.2 = er /\ er ≠ 0) /\ Kp [] w5 w') ?_ ?_
 ·refine as' τok (fun z=>Kp [] w5 z) ?_
  refine rV τok [0,1,3,4,5,6,7,8,10,11] 9 (mB 19 [2,9,12,13,14,15,16,17,18]) (kQd w5) ?_;refine lk h8 ?_;refine lk h9 ?_;refine lk h9 ?_;have vct:∀ {wa:World},Kp [] w5 wa -> CC 74 #[iV (ps.length:Int),iV (ga.length:Int)] wa (fun e w'=>(∃ v,e = .returned v /\ VsO C wa.heap.size w' v (varsM ps.length (ga.length:Int))) /\ Kp [] wa w'):=fun {wa} h=>lE' (hS5.tr h) (fun b o v q=>KZ (hold5 _ _ _ q) h.size) ps.length (ga.length:Int) (by omega) (by omega) (by omega);have outD:∀ {n0 wa v},VsO C n0 wa v (varsM ps.length (ga.length:Int)) -> w5.heap.size <= n0 -> TmsV (fun b o t=>(C b o t \/ New n0 wa b o t) /\ some b ≠ v.ownBlock) go (.slice ao go.length co):=fun {n0 wa v} h hn=>hvo.mono fun b o t q=>⟨.inl q,fun e=>by
   have:=(h.blk b e.symm).1;have:=hold5 _ _ _ q;omega⟩
  have hvl:(varsM ps.length (ga.length:Int)).length = ps.length:=by simp [varsM]
  refine gd' τok 2 9 8 (mB 19 [9,12,13,14,15,16,17,18]) (mB 19 [2,12,13,14,15,16,17,18]) rfl rfl rfl rfl rfl (by kernel_rfl) ?_ ?_
  ·refine fill [iV 9,iV (i:Int),iV 0] rfl ?_
   refine new fun b25 wA hb25 hX hsX hkA=>?_;have hkA:Kp [] w5 wA:=hkA.rd;have hb25:w5.heap.size <= b25:=by
    have:b25 = w5.heap.size:=hb25;omega
   refine ⟨.inl hkA,?_⟩;refine nV τok 9 7 (mR 19 12) ?_;refine ab' (vct hkA) ?_;rintro e wB ⟨⟨v,rfl,hV⟩,hkB⟩;have k5B:=hkA.tr hkB;refine ⟨.inl k5B,?_⟩;refine nV τok 12 6 (mR 19 13) ?_;have hblk:=hV.blk;refine hV.more (fun b o t q=>KZ (hold5 _ _ _ q) hkA.size) (outD hV hkA.size) (hS5.tr k5B) (by rw [hvl]; omega) fun v' wz hV' hkz=>?_;have hXl:=hX.lt;have hX:=(hX.kp hkB (by simp)).kp hkz (fun h=>by have:=(hblk b25 (by simpa using h)).1; omega);have hV:=hV'.low hkA.size;have k5z:Kp [] w5 wz:=k5B.trans hkz fun y hy hl=>by
    have:=(hblk y (by simpa using hy)).1;have:=hkA.size;omega
   refine ⟨.inl k5z,?_⟩;have k0z:=k05.tr k5z;refine nV τok 13 5 (mR 19 14) ?_;have hap:=dC' (C:=Cn C w wz) (Cn.sub hS k0z) hi9 hys (by simp [varsM]; omega) (tm1 (n:=⟨9,(i:Int),0⟩) hX ⟨⟨by simp,by simp⟩,⟨by simp only; omega,by simp only; omega⟩,⟨by simp,by simp⟩⟩ fun o t ht=>.inr ⟨KQ k05.size hb25,ht⟩) ((hV.tms (by simp [varsM]; omega)).mono fun b o t h=>h.imp_right fun q=>⟨KQ k05.size q.1,q.2⟩);rw [hr1] at hap;refine ab' hap ?_;rintro e wy ⟨he,hky⟩;have k5y:=k5z.tr hky;cases r1 with
   | error er =>
    obtain ⟨rfl,her⟩:=he;refine ⟨.inl k5y,?_⟩;refine rV τok (rg 14 5) 0 (mR 19 19) k5y ?_;refine dV ?_;exact ⟨(.slice none 0 0,er),rfl,⟨rfl,rfl,rfl,rfl,trivial⟩,⟨rfl,her⟩,k5y⟩
   | ok t =>
    obtain ⟨u,rfl,hu⟩:=he;refine ⟨.inl k5y,?_⟩;refine rV τok (rg 14 5) 0 (mR 19 19) k5y ?_;refine dV ?_;exact ⟨(u,0),rfl,⟨rfl,rfl,rfl,rfl,trivial⟩,⟨rfl,hu.mono fun b o v h=>Cn.two (D:=C) hky k0z.size h⟩,k5y⟩
  ·refine ab' (vct (kQd w5)) ?_
   rintro e wA ⟨⟨v,rfl,hV⟩,hkA⟩;have hkA:Kp [] w5 wA:=hkA.rd;have hV:VsO C w5.heap.size wA v (varsM ps.length (ga.length:Int)):=hV;have hblk:=hV.blk;refine ⟨.inl hkA,?_⟩;refine gd' τok 2 12 7 (mR 19 12) (mB 19 [2,13,14,15,16,17,18]) rfl rfl rfl rfl rfl (by kernel_rfl) ?_ ?_
   ·refine fill [iV 9,iV (i:Int),iV 0] rfl ?_
    refine new fun b25 wB hb25' hX hsX hkB=>?_;have k5B:=hkA.tr hkB;have hb25:w5.heap.size <= b25:=by have:=hkA.size; omega
    refine ⟨.inl k5B,?_⟩;refine nV τok 12 6 (mR 19 13) ?_;refine (hV.kp hkB).more hold5 (outD (hV.kp hkB) (KJ _)) (hS5.tr k5B) (by rw [hvl]; omega) fun v' wz hV' hkz=>?_;have hX:=hX.kp hkz (fun h=>by have:=(hblk b25 (by simpa using h)).2; omega);have hV:=hV';have k5z:Kp [] w5 wz:=k5B.trans hkz fun y hy hl=>by
     have:=(hblk y (by simpa using hy)).1;omega
    refine ⟨.inl k5z,?_⟩;have k0z:=k05.tr k5z;refine nV τok 13 5 (mR 19 14) ?_;have hap:=dC' (C:=Cn C w wz) (Cn.sub hS k0z) hi9 hys (by simp [varsM]; omega) (tm1 (n:=⟨9,(i:Int),0⟩) hX ⟨⟨by simp,by simp⟩,⟨by simp only; omega,by simp only; omega⟩,⟨by simp,by simp⟩⟩ fun o t ht=>.inr ⟨KQ k05.size hb25,ht⟩) ((hV.tms (by simp [varsM]; omega)).mono fun b o t h=>h.imp_right fun q=>⟨KQ k05.size q.1,q.2⟩);rw [hr1] at hap;refine ab' hap ?_;rintro e wy ⟨he,hky⟩;have k5y:=k5z.tr hky;cases r1 with
    | error er =>
     obtain ⟨rfl,her⟩:=he;refine ⟨.inl k5y,?_⟩;refine rV τok (rg 14 5) 0 (mR 19 19) k5y ?_;refine dV ?_;exact ⟨(.slice none 0 0,er),rfl,⟨rfl,rfl,rfl,rfl,trivial⟩,⟨rfl,her⟩,k5y⟩
    | ok t =>
     obtain ⟨u,rfl,hu⟩:=he;refine ⟨.inl k5y,?_⟩;refine rV τok (rg 14 5) 0 (mR 19 19) k5y ?_;refine dV ?_;exact ⟨(u,0),rfl,⟨rfl,rfl,rfl,rfl,trivial⟩,⟨rfl,hu.mono fun b o v h=>Cn.two (D:=C) hky k0z.size h⟩,k5y⟩
   ·refine hV.more hold5 (outD hV (KJ _)) (hS5.tr hkA) (by rw [hvl]; omega) fun v' wB hV' hkB=>?_
    have k5B:Kp [] w5 wB:=hkA.trans hkB fun y hy hl=>by
     have:=(hblk y (by simpa using hy)).1;omega
    refine ⟨.inl k5B,?_⟩;refine nV τok 2 6 (mR 19 13) ?_;refine fill [iV 9,iV (i:Int),iV 0] rfl ?_;refine new fun b25 wz hb25' hX hsX hkz=>?_;have hb25:w5.heap.size <= b25:=by have:=k5B.size; omega
    have hV:=hV'.kp hkz;have k5z:=k5B.tr hkz;refine ⟨.inl k5z,?_⟩;have k0z:=k05.tr k5z;refine nV τok 13 5 (mR 19 14) ?_;have hap:=dC' (C:=Cn C w wz) (Cn.sub hS k0z) hi9 hys (by simp [varsM]; omega) (tm1 (n:=⟨9,(i:Int),0⟩) hX ⟨⟨by simp,by simp⟩,⟨by simp only; omega,by simp only; omega⟩,⟨by simp,by simp⟩⟩ fun o t ht=>.inr ⟨KQ k05.size hb25,ht⟩) ((hV.tms (by simp [varsM]; omega)).mono fun b o t h=>h.imp_right fun q=>⟨KQ k05.size q.1,q.2⟩);rw [hr1] at hap;refine ab' hap ?_;rintro e wy ⟨he,hky⟩;have k5y:=k5z.tr hky;cases r1 with
    | error er =>
     obtain ⟨rfl,her⟩:=he;refine ⟨.inl k5y,?_⟩;refine rV τok (rg 14 5) 0 (mR 19 19) k5y ?_;refine dV ?_;exact ⟨(.slice none 0 0,er),rfl,⟨rfl,rfl,rfl,rfl,trivial⟩,⟨rfl,her⟩,k5y⟩
    | ok t =>
     obtain ⟨u,rfl,hu⟩:=he;refine ⟨.inl k5y,?_⟩;refine rV τok (rg 14 5) 0 (mR 19 19) k5y ?_;refine dV ?_;exact ⟨(u,0),rfl,⟨rfl,rfl,rfl,rfl,trivial⟩,⟨rfl,hu.mono fun b o v h=>Cn.two (D:=C) hky k0z.size h⟩,k5y⟩
 rintro ⟨u,er⟩ w6 ⟨hr,hk6⟩;have k06:=k05.tr hk6;refine fY' τok ?_;cases r1 with
 | error er' =>
  obtain ⟨q1,her⟩:=hr;simp only at q1;subst q1;have hRES:(.error er:Except Int Tr) = RES:=hRES;subst hRES;refine au' (p:=er ≠ 0) her ?_;exact ⟨⟨rfl,her⟩,k06⟩
 | ok t =>
  obtain ⟨q1,hu⟩:=hr;simp only at q1 hu;subst q1;have ht:=aL' (qk B) hi9 hys hr1;have h8:=h8.kp hk6 (by simp);have h9:=h9.kp hk6 (by simp);have hRES:(bq' ga t).bind (bq' ps) = RES:=hRES;obtain ⟨au,cu,rfl,_,_⟩:=id hu;refine lb h9 ?_;refine ab' (iD' (Cn.sub hS k06) ht.ok ht.len (fun y hy=>by
   obtain ⟨k,hk⟩:=JH hy;exact ⟨(hC.fa k y hk).ok,(hC.fa k y hk).len⟩) (by omega) hu (hva.mono fun _ _ _ h=>.inl h)) ?_
  rintro e w7 ⟨he,hk7⟩;have k07:=k06.tr hk7;cases hb:bq' ga t with
  | error er =>
   rw [hb] at he hRES;obtain ⟨rfl,her⟩:=he;have hRES:(.error er:Except Int Tr) = RES:=hRES;subst hRES;refine au' (p:=er ≠ 0) her ?_;exact ⟨⟨rfl,her⟩,k07⟩
  | ok t2 =>
   rw [hb] at he hRES;obtain ⟨u2,rfl,hu2⟩:=he;have hu2:=hu2.mono fun b o v h=>Cn.two (D:=C) hk7 k06.size h;have ht2:=bN' (qk B) (N:=(ps.length:Int)) (ht.mono (by omega)) (fun k y hy=>(hC.up_a hi hF.kind hy).mono (by omega)) hb;have h8:=h8.kp hk7 (by simp);obtain ⟨au2,cu2,rfl,_,_⟩:=id hu2;refine lb h8 ?_;have hbe:=iD' (Cn.sub hS k07) ht2.ok ht2.len (fun y hy=>by
    obtain ⟨k,hk⟩:=JH hy;exact ⟨(hF.fp k y hk).ok,(hF.fp k y hk).len⟩) (by omega) hu2 (hpa.mono fun _ _ _ h=>.inl h)
   have hRES:bq' ps t2 = RES:=hRES;rw [hRES] at hbe;refine ab' hbe ?_;rintro e w8 ⟨he,hk8⟩;have k08:=k07.tr hk8;cases RES with
   | error er =>
    obtain ⟨rfl,her⟩:=he;exact ⟨⟨rfl,her⟩,k08⟩
   | ok z =>
    obtain ⟨u,rfl,hu⟩:=he;exact ⟨⟨u,rfl,hu.mono fun b o v h=>Cn.two (D:=C) hk8 k07.size h⟩,k08⟩
end
section
variable {C:Mem} {w:World} {B:BoT}
theorem fG' (hB:GoodB B) (hS:Sub C w) (hold:∀ b o v,C b o v -> b < w.heap.size) {vb:Value} (hvb:BoV C B vb) {N:Int} (hN0:0 <= N) (hN:N <= 90000) {a b:Int} (ha:ev' B B.ents.length a = true) (hb0:0 <= b) (hbl:b < (cr' B a).ctors.length)
  {qs:List Tr} (hq:∀ y ∈ qs,Ft (QB B) N y) (hql:qs.length = (psM B a).length) {mo:Tr} (hmo:Ft (QB B) N mo) {vq vm:Value} (hvq:TmsV C qs vq) (hvm:TmV C mo vm) :
  CC 89 #[vb,iV a,iV b,vq,vm] w (TyP C w (bZ' B a b qs mo)):=by
 refine oF Tryz.func89 ?_;have hal:=fg' hB ha;obtain ⟨i,x,s,ps,qi,rfl,_,hi,hxD,hF⟩:=hB.fam ha (KJ _);obtain ⟨e1,e2,e3⟩:=hF.ps_eq hi;obtain ⟨k,rfl⟩:∃ k:Nat,b = (k:Int):=⟨b.toNat,by omega⟩
 rw [hxD] at hbl;obtain ⟨c,hc,_⟩:=af' (l:=x.ctors) (k:=k) (by omega);obtain ⟨ga,go,hC⟩:=hF.ct k c hc;obtain ⟨e4,e5,e6⟩:=hC.ag_eq hi hc;have hlp:=hF.lp;have hla:=hC.la;have hli:=hF.li;have hlo:=hC.lo;have hlc:=hF.lc;obtain ⟨RES,hRES⟩:∃ r,bZ' B (i:Int) (k:Int) qs mo = r:=⟨_,rfl⟩
 rw [hRES];unfold bZ' at hRES;rw [e1,e4,e5] at hRES;rw [e1] at hql;have hi9:Ft (QB B) ((ps.length + ga.length:Nat):Int) (.mk ⟨10,(i:Int),(k:Int)⟩ []):=hE' (by simp [ah',inR]; omega) (.inr rfl) (by
  simp only [QB,aZ',bR'];simp [ha,hxD];omega)
 have hys:∀ y ∈ varsM ps.length (ga.length:Int) ++ varsM ga.length 0,Ft (QB B) ((ps.length + ga.length:Nat):Int) y:=fun y hy=>by
  rcases List.mem_append.1 hy with hy | hy
  ·exact (dh' (qk B) (by omega) (by omega) y hy).mono (by omega)
  ·exact (dh' (qk B) (by omega) (by omega) y hy).mono (by omega)
 obtain ⟨v1,v2,v3,rfl,hb1,hb2,hb3⟩:=hvb;obtain ⟨be,oe,ce,rfl,hat⟩:=hb2.at hi;obtain ⟨w1e,w2e,w3e,w4e,w5e,w6e,hcs,hki,hso,hpa,hin,hct,hty,hbo⟩:=eB' hat;rw [hF.params] at hpa;obtain ⟨bc,oc,cc,rfl,hca⟩:=hct.at hc;obtain ⟨va,vo,hccs,hva,hvo⟩:=jg' hca;rw [hC.args] at hva;rw [hC.out] at hvo;have hpa:=TmsV.sv.2 hpa;have hva:=TmsV.sv.2 hva;have hvo:=TmsV.sv.2 hvo;have hone:∀ v ∈ [iV x.kind,w1e,w2e,w3e,.slice (some ⟨bc,oc,none⟩) x.ctors.length cc,w5e,w6e],v.oneCell' = true:=fun v hv=>by
  simp at hv;rcases hv with rfl | rfl | rfl | rfl | rfl | rfl | rfl
  ·rfl
  ·exact hso.one
  ·exact (TmsV.sv.1 hpa).one
  ·exact hin.one
  ·rfl
  ·exact hty.one
  ·exact hbo.one
 have hone2:∀ v ∈ [va,vo],v.oneCell' = true:=fun v hv=>by
  simp at hv;rcases hv with rfl | rfl
  ·exact (TmsV.sv.1 hva).one
  ·exact (TmsV.sv.1 hvo).one
 obtain ⟨ap,cp,rfl,_,_⟩:=id hpa;obtain ⟨aa,ca,rfl,_,_⟩:=id hva;obtain ⟨ao,co,rfl,_,_⟩:=id hvo;obtain ⟨aq,cq,rfl,_,_⟩:=id hvq;obtain ⟨am,cm,rfl,_,_⟩:=id hvm;have hvl1:(varsM ps.length (ga.length:Int)).length = ps.length:=by simp [varsM]
 have hvl2:(varsM ga.length 0).length = ga.length:=by simp [varsM]
 refine cO (args:=[_,_,_,_,_]) 120 [.tmp 10,.tmp 11] τok Tryz.func89 ?_;refine new fun b3 w1 hb3' h3 hs1 hk1=>?_;have h3:Bk w1.heap b3 [iV B.vars,v1,.slice (some ⟨be,oe,none⟩) B.ents.length ce,iV B.nat,v3] 26:=h3;refine lb h3 ?_;refine ix i rfl (ai' hi) ?_;refine ldN _ rfl (fun j v hj=>hS.tr hk1 _ _ _ (hcs j v hj)) ?_;refine new fun b8 w2 hb8 h8 hs2 hk2=>?_;refine stN (vs:=[iV x.kind,w1e,.slice ap ps.length cp,w3e,.slice (some ⟨bc,oc,none⟩) x.ctors.length cc,w5e,w6e]) h8 rfl hone fun w3 h8 hs3 hk3=>?_;have k13:=hk2.newSt hb8 hk3;have k03:=hk1.tr k13;refine lb h8 ?_;refine ix k rfl (ai' hc) ?_;refine ldN _ rfl (fun j v hj=>hS.tr k03 _ _ _ (hccs j v hj)) ?_;refine new fun b9 w4 hb9 h9 hs4 hk4=>?_;refine stN (vs:=[.slice aa ga.length ca,.slice ao go.length co]) h9 rfl hone2 fun w5 h9 hs5 hk5=>?_;have k35:=hk4.newSt hb9 hk5;have k05:=k03.tr k35;have h8:=h8.kp k35 (by simp);have hS5:=hS.tr k05;have hold5:∀ b o t,C b o t -> b < w5.heap.size:=Kp.hold k05 hold;refine as' τok (fun z=>Kp [] w5 z) ?_;refine rV τok (rg 0 8) 0 (mR 8 8) (kQd w5) ?_;refine lk h8 ?_;refine lk h9 ?_;refine dV ?_;refine jK' ((ps.length + ga.length:Nat):Int) (by omega) (by omega) (by simp) ?_;refine ab' (dG' (w:=(dr w5)) (Sub.dr hS5 _) hold5 hmo (by omega) hvm (b:=((ps.length + ga.length:Nat):Int)) (by omega)) ?_;rintro e w6 ⟨um,rfl,hum,hk6⟩;have hk6:Kp [] w5 w6:=hk6.rd;have hum:IsTm (aq' mo ((ps.length + ga.length:Nat):Int) 0) w5 w6 um:=hum;have k06:=k05.tr hk6;have hm:=hmo.lift (qk B) (b:=((ps.length + ga.length:Nat):Int)) (by omega) (by omega) (by omega);have hum6:TmV (Cn C w w6) (aq' mo ((ps.length + ga.length:Nat):Int) 0) um:=hum.cn k05.size;obtain ⟨aum,cum,rfl,_,_⟩:=id hum6;refine fill [iV 10,iV (i:Int),iV (k:Int)] rfl ?_;refine new fun b7 w7 hb7 h7 hs7 hk7=>?_;have k07:=k06.tr hk7;have hold7:∀ b o t,C b o t -> b < w7.heap.size:=Kp.hold k07 hold;refine ab' (lE' (hS.tr k07) hold7 ps.length (ga.length:Int) (by omega) (by omega) (by omega)) ?_;rintro e w8 ⟨⟨vv1,rfl,hV1⟩,hk8⟩;have k08:=k07.tr hk8;have hold8:∀ b o t,C b o t -> b < w8.heap.size:=Kp.hold k08 hold;have hb1k:=hV1.blk;refine ab' (lE' (hS.tr k08) hold8 ga.length 0 (by omega) (by omega) (by omega)) ?_;rintro e w9 ⟨⟨vv2,rfl,hV2⟩,hk9⟩;have k09:=k08.tr hk9;refine (hV1.kp hk9).more hold7 ((hV2.tms (by omega)).mono fun b o t q=>?_) (hS.tr k09) (by omega) fun v10 w10 hV10 hk10=>?_
 ·rcases q with q | q
  ·exact ⟨.inl q,fun e=>by have:=(hb1k b e.symm).1; have:=hold7 _ _ _ q; omega⟩
  ·exact ⟨.inr ⟨KQ hk8.size q.1,q.2⟩,fun e=>by have:=(hb1k b e.symm).2; have:=q.1; omega⟩
 have k010:Kp [] w w10:=k09.trans hk10 fun y hy hl=>by
  have:=(hb1k y (by simpa using hy)).1;have:=k07.size;omega
 have h7':=((h7.kp hk8 (by simp)).kp hk9 (by simp)).kp hk10 (fun h=>by have:=(hb1k b7 (by simpa using h)).1; have:=h7.lt; omega);have hb7n:w.heap.size <= b7:=by have:=k06.size; omega
 obtain ⟨r1,hr1⟩:∃ r,aH' (.mk ⟨10,(i:Int),(k:Int)⟩ []) (varsM ps.length (ga.length:Int) ++ varsM ga.length 0) = r:=⟨_,rfl⟩
 rw [hr1] at hRES;have hap:=dC' (C:=Cn C w w10) (Cn.sub hS k010) hi9 hys (by simp [varsM]; omega) (tm1 (n:=⟨10,(i:Int),(k:Int)⟩) h7' ⟨⟨by simp,by simp⟩,⟨by simp only; omega,by simp only; omega⟩,⟨by simp only; omega,by simp only; omega⟩⟩ fun o t ht=>.inr ⟨hb7n,ht⟩) ((hV10.tms (by simp [varsM]; omega)).mono fun b o t h=>h.imp_right fun q=>⟨KQ k07.size q.1,q.2⟩);rw [hr1] at hap;refine ab' hap ?_;rintro e w11 ⟨he,hk11⟩;have k011:=k010.tr hk11;have k511:Kp [] w5 w11:=(((hk6.tr hk7).tr hk8).tr hk9).trans (hk10.trans hk11 (fun y hy _=>by cases hy)) fun y hy hl=>by
  have:=(hb1k y (by simpa using hy)).1;have:=(hk6.tr hk7).size;omega
 have k611:Kp [] w6 w11:=((hk7.tr hk8).tr hk9).trans (hk10.trans hk11 (fun y hy _=>by cases hy)) fun y hy hl=>by
  have:=(hb1k y (by simpa using hy)).1;have:=hk7.size;omega
 cases r1 with
 | error er =>
  obtain ⟨rfl,her⟩:=he;have hRES:(.error er:Except Int Tr) = RES:=hRES;subst hRES;refine au' (p:=er ≠ 0) her ?_;exact ⟨⟨rfl,her⟩,k011⟩
 | ok made =>
  obtain ⟨umd,rfl,humd⟩:=he;have humd:=humd.mono fun b o v h=>Cn.two (D:=C) hk11 k010.size h;have hmd:=aL' (qk B) hi9 hys hr1;have hRES:(aH' (aq' mo ((ps.length + ga.length:Nat):Int) 0) (go ++ [made])).bind (fun t=>(bq' ga t).bind (aS' qs 0 ps.length)) = RES:=hRES;obtain ⟨amd,cmd,rfl,_,_⟩:=id humd;have h9:=h9.kp k511 (by simp);refine fill [] rfl ?_;refine new fun b12 w12 hb12 h12 hs12 hk12=>?_;have k012:=k011.tr hk12;have hb12n:w.heap.size <= b12:=by have:=k011.size; omega
  refine lb (h9.kp hk12 (by simp)) ?_;obtain ⟨D,hD⟩:∃ D:Mem,D = Cn C w w11:=⟨_,rfl⟩
  have hDold:∀ b o t,D b o t -> b < w11.heap.size:=by rw [hD]; exact fun b o t h=>Cn.hold hold k011 h
  have hDS:Sub D w11:=by rw [hD]; exact Cn.sub hS k011
  have hE12:VsO D w11.heap.size w12 (.slice (some ⟨b12,0,none⟩) 0 0) []:=VsO.empty h12 (by omega);have hob12:(Value.slice (some ⟨b12,0,none⟩) 0 0).ownBlock = some b12:=rfl;refine hE12.more hDold (hvo.mono fun b o t q=>⟨.inl (by rw [hD]; exact .inl q),fun e=>by
   rw [hob12] at e;have:=JB e;have:=hold _ _ _ q;omega⟩) (hDS.tr hk12) (by simp; omega) fun v13 w13 hV13 hk13=>?_
  rw [List.nil_append] at hV13;have k1113:Kp [] w11 w13:=hk12.trans hk13 fun y hy hl=>by
   rw [hob12] at hy;obtain rfl:y = b12:=by simpa using hy
   omega
  refine fill [.slice amd (row made).length cmd] rfl ?_;refine new fun b14 w14 hb14 h14 hs14 hk14=>?_;have hb13:=hV13.blk;refine (hV13.kp hk14).one hDold (hDS.tr (k1113.tr hk14)) (humd.mono fun b o t q=>⟨.inl (by rw [hD]; exact q),fun e=>by
   have:=(hb13 b e.symm).1;have:b < w11.heap.size:=Cn.hold hold k011 q;omega⟩) (by omega) h14 fun v15 w15 hV15 hk15=>?_
  have k1115:Kp [] w11 w15:=(k1113.tr hk14).trans hk15 fun y hy hl=>by
   have:=(hb13 y (by simpa using hy)).1;omega
  have k015:=k011.tr k1115;obtain ⟨r2,hr2⟩:∃ r,aH' (aq' mo ((ps.length + ga.length:Nat):Int) 0) (go ++ [made]) = r:=⟨_,rfl⟩
  have hysm:∀ y ∈ go ++ [made],Ft (QB B) (N + ((ps.length + ga.length:Nat):Int)) y:=fun y hy=>by
   rcases List.mem_append.1 hy with hy | hy
   ·exact (hC.up_o hi hF.kind hy).mono (by omega)
   ·obtain rfl:y = made:=by simpa using hy
    exact hmd.mono (by omega)
  have hap2:=dC' (C:=Cn C w w15) (Cn.sub hS k015) hm hysm (by simp; omega) (hum6.mono fun _ _ _ h=>h.up (k611.tr k1115)) ((hV15.tms (by simp; omega)).mono fun b o t h=>h.elim (fun q=>by rw [hD] at q; exact Cn.up k1115 q) fun q=>.inr ⟨KQ k011.size q.1,q.2⟩);rw [hr2] at hap2 hRES;refine ab' hap2 ?_;rintro e w16 ⟨he,hk16⟩;have k016:=k015.tr hk16;cases r2 with
  | error er =>
   obtain ⟨rfl,her⟩:=he;have hRES:(.error er:Except Int Tr) = RES:=hRES;subst hRES;refine au' (p:=er ≠ 0) her ?_;exact ⟨⟨rfl,her⟩,k016⟩
  | ok t =>
   obtain ⟨ut,rfl,hut⟩:=he;have hut:=hut.mono fun b o v h=>Cn.two (D:=C) hk16 k015.size h;have ht:=aL' (qk B) hm hysm hr2;have hRES:(bq' ga t).bind (aS' qs 0 ps.length) = RES:=hRES;obtain ⟨aut,cut,rfl,_,_⟩:=id hut;have h9:=h9.kp (k1115.tr hk16) (by simp);refine lb h9 ?_;refine ab' (iD' (Cn.sub hS k016) ht.ok ht.len (fun y hy=>by
    obtain ⟨k,hk⟩:=JH hy;exact ⟨(hC.fa k y hk).ok,(hC.fa k y hk).len⟩) (by omega) hut (hva.mono fun _ _ _ h=>.inl h)) ?_
   rintro e w17 ⟨he,hk17⟩;have k017:=k016.tr hk17;cases hb:bq' ga t with
   | error er =>
    rw [hb] at he hRES;obtain ⟨rfl,her⟩:=he;have hRES:(.error er:Except Int Tr) = RES:=hRES;subst hRES;refine au' (p:=er ≠ 0) her ?_;exact ⟨⟨rfl,her⟩,k017⟩
   | ok t2 =>
    rw [hb] at he hRES;obtain ⟨u2,rfl,hu2⟩:=he;have hu2:=hu2.mono fun b o v h=>Cn.two (D:=C) hk17 k016.size h;have ht2:=bN' (qk B) (N:=N + ps.length) (ht.mono (by omega)) (fun k y hy=>(hC.up_a hi hF.kind hy).mono (by omega)) hb;have hRES:aS' qs 0 ps.length t2 = RES:=hRES;refine i6 ?_;refine lp τok (σ:=Nat × Tr × Value) (fun q=>[(3,.slice aq qs.length cq),(19,q.2.2),(20,iV ((q.1:Int) - 1))])
     (fun q w'=>q.1 <= ps.length /\ Ft (QB B) (N + q.1) q.2.1 /\ TmV (Cn C w w') q.2.1 q.2.2 /\ Kp [] w w' /\ aS' qs 0 q.1 q.2.1 = RES) (fun q=>q.1) (ps.length,t2,u2) rfl
     ⟨rfl,rfl,rfl,trivial⟩ ⟨KJ _,ht2,hu2,k017,hRES⟩ ?_
    clear hRES hu2 ht2
    rintro ⟨j,z,uz⟩ w18 ⟨hj,hzF,huz,k018,hres⟩;simp only at hj hzF huz hres;refine ac' (fun g=>?_) (fun g=>?_)
    ·have g:(0:Int) <= (j:Int) - 1:=g
     obtain ⟨jj,rfl⟩:∃ jj,j = jj + 1:=⟨j - 1,by omega⟩
     have e0:((jj + 1:Nat):Int) - 1 = (jj:Int):=by omega
     rw [e0];simp only [aS'] at hres;obtain ⟨p,hp,_⟩:=af' (l:=qs) (k:=jj) (by omega);have egd:qs.getD jj (varX 0) = p:=by rw [List.getD_eq_getElem?_getD,hp]; rfl
     rw [egd] at hres;obtain ⟨bq,oq,cq',e7,zp,hzp,hzpT⟩:=hvq.get hp;injection e7 with q1 q2 q3
     subst q1 q3;have hpF:=hq p (JQ hp);have hlF:=hpF.lift (qk B) (b:=(jj:Int)) (by omega) (by omega) (by omega);refine ix jj rfl (by omega) ?_;refine ldC (hS.tr k018) hzp ?_;refine ab' (dG' (hS.tr k018) (Kp.hold k018 hold) hpF (by omega) hzpT (b:=(jj:Int)) (by omega)) ?_;rintro e w19 ⟨ul,rfl,hul,hk19⟩;have k019:=k018.tr hk19;have hul':TmV (Cn C w w19) (aq' p jj 0) ul:=hul.cn k018.size;obtain ⟨aul,cul,rfl,_,_⟩:=id hul';obtain ⟨auz,cuz,rfl,_,_⟩:=id huz;refine ab' (jt' (Q:=QB B) (N:=N + jj) (v:=0) (Cn.sub hS k019) (fun b o v h=>Cn.hold hold k019 h) (hzF.mono (by omega)) hlF (by omega) (huz.mono fun _ _ _ h=>h.up hk19) hul' (by omega)) ?_;rintro e w20 ⟨he,hk20⟩;have k020:=k019.tr hk20;cases hs:ay' z (aq' p jj 0) 0 with
     | error er =>
      rw [hs] at he hres;obtain ⟨rfl,her⟩:=he;have hres:(.error er:Except Int Tr) = RES:=hres;subst hres;refine au' (p:=er ≠ 0) her ?_;exact ⟨⟨rfl,her⟩,k020⟩
     | ok y =>
      rw [hs] at he hres;obtain ⟨uy,rfl,huy⟩:=he;have hres:aS' qs 0 jj y = RES:=hres;have hyF:=az' (qk B) (N:=N + jj) (v:=0) (hzF.mono (by omega)) hlF (by omega) (by omega) (by omega) (by omega) hs;refine i6 ?_;exact ⟨(jj,y,uy),by simp only; omega,rfl,⟨rfl,rfl,rfl,trivial⟩,by show jj <= _; omega,hyF.mono (by simp only; omega),huy.mono fun b o v h=>Cn.two (D:=C) hk20 k019.size h,k020,hres⟩
    ·have g:¬ (0:Int) <= (j:Int) - 1:=g
     obtain rfl:j = 0:=by omega
     simp only [aS'] at hres;subst hres;exact ⟨⟨_,rfl,huz⟩,k018⟩
end
end Go.Proofs.YtpealcfjbcpoiaaGreat
