import Derived.Test.YtmpgcpemnjbgjaaGreatMm11
import Derived.Lib.AppendZerosOnto
import Derived.Laws.StructEq
import Derived.ArgAppend
set_option linter.unusedVariables false
set_option linter.unusedSimpArgs false
set_option maxRecDepth 100000
set_option maxHeartbeats 4000000
namespace Go.Proofs.YtmpgcpemnjbgjaaGreat
open Go.Wx Lv
theorem tt' (n:Nat) (h0:0 < n) (hn:n <= 1000000) (w:World) :
  CC 185 #[.slice none 0 0,iV (n:Int)] w (fun e w'=>∃ v,e = .returned v /\ Own rAt 193 w.heap.size w' v [] /\ Kp [] w w'):=by
 refine oF Tryz.func185 ?_;refine cO (args:=[_,_]) 27 [.tmp 4] τok Tryz.func185 ?_;refine qW' rfl ?_;refine i6 ?_;refine i6 ?_;refine ac' (fun g=>?_) (fun g=>?_);rotate_left
 ·exact absurd (by omega) g
 refine qW' rfl ?_;refine nr' τok rfl 0 (.slice none 0 0) rfl (Nat.le_refl _) rfl ?_;have e:((n:Int) - ((0:Nat) - (0:Nat):Int)) = (n:Int):=by omega
 rw [e];refine apZ (R:=rAt) rfl rfl (by decide) rfl (by decide) n h0 hn fun B G w1 hB hG hO hk=>?_;refine nr' τok rfl 0 _ rfl (Nat.zero_le _) dD' ?_;exact ⟨_,rfl,hO,hk⟩
theorem pq' {D:Mem} {w:World} (hD:Sub D w) (ls:List (List Atom)) (a:Option Addr) (cap:Nat) (hl:Sl (rSl rAt) D a ls) (hlen:ls.length <= 1000) (hsum:(ls.map List.length).sum <= 1000000) (hpos:0 < (ls.map List.length).sum) :
  CC 160 #[.slice a ls.length cap] w (fun e w'=>∃ v,e = .returned v /\ Own rAt 193 w.heap.size w' v ls.flatten /\ Kp [] w w'):=by
 refine oF Tryz.func160 ?_;refine cO (args:=[_]) 36 [.tmp 2] τok Tryz.func160 ?_;have hDl:=hD.lt;have hpart:∀ k,((ls.take k).map List.length).sum + ((ls.drop k).map List.length).sum = (ls.map List.length).sum:=fun k=>by
  rw [<- List.sum_append,<- List.map_append,List.take_append_drop]
 refine lp τok (σ:=Nat) (fun k=>[(0,.slice a ls.length cap),(3,iV (((ls.take k).map List.length).sum:Nat)),(9,.slice a ls.length cap),(10,iV ls.length),(11,iV k)]) (fun k w'=>k <= ls.length /\ w' = w) (fun k=>ls.length - k) 0 rfl
  ⟨rfl,rfl,rfl,rfl,rfl,trivial⟩ ⟨Nat.zero_le _,rfl⟩ ?_
 rintro k w1 ⟨hk,rfl⟩;refine ac' (fun g1=>?_) (fun g1=>?_)
 ·have hlt:k < ls.length:=by omega
  obtain ⟨x,hx,hd⟩:=af' hlt;have e1:((ls.take (k + 1)).map List.length).sum = ((ls.take k).map List.length).sum + x.length:=by rw [al' hx]; simp
  have hp:=hpart (k + 1);obtain ⟨b,o,rfl,ax,cx,hcell,hsl⟩:=hl.sl hx;refine ix k rfl hlt ?_;refine ldC hD hcell ?_;refine i6 ?_;refine i6 ?_;refine ⟨k + 1,by omega,rfl,⟨rfl,?_,rfl,rfl,rfl,trivial⟩,hlt,rfl⟩;rw [e1]
  rfl
 have e2:ls.take k = ls:=List.take_of_length_le (by omega);rw [e2];refine ab' (tt' _ hpos hsum w1) ?_;rintro e w2 ⟨v2,rfl,hO2,hk2⟩;refine lp τok (σ:=Nat × Value) (fun q=>[(6,q.2),(25,.slice a ls.length cap),(26,iV ls.length),(27,iV q.1)]) (fun q w'=>q.1 <= ls.length /\ Own rAt 193 w1.heap.size w' q.2 (ls.take q.1).flatten /\ Kp [] w1 w') (fun q=>ls.length - q.1) (0,v2) rfl
  ⟨rfl,rfl,rfl,rfl,trivial⟩ ⟨Nat.zero_le _,by simpa using hO2,hk2⟩ ?_
 clear hO2
 rintro ⟨k,v⟩ w3 ⟨hk,hO,hk3⟩;simp only at hk hO;refine ac' (fun g2=>?_) (fun g2=>?_)
 ·have hlt:k < ls.length:=by omega
  obtain ⟨x,hx,hd⟩:=af' hlt;have e1:(ls.take (k + 1)).flatten = (ls.take k).flatten ++ x:=by rw [al' hx]; simp
  have hp:=hpart (k + 1);have e3:((ls.take (k + 1)).map List.length).sum = (ls.take k).flatten.length + x.length:=by rw [<- List.length_flatten,e1]; simp
  obtain ⟨b,o,rfl,ax,cx,hcell,hsl⟩:=hl.sl hx;refine ix k rfl hlt ?_;refine ldC (hD.tr hk3) hcell ?_;refine hO.apF τok rfl rfl (by decide) sq' (hD.tr hk3) x hsl (by omega) (by unfold maxLen; omega) fun v' w4 hO4 hk4 _=>?_;refine i6 ?_;refine ⟨(k + 1,v'),by simp only; omega,rfl,⟨rfl,rfl,rfl,rfl,trivial⟩,hlt,?_,hk3.own hk4 hO⟩;rw [e1];exact hO4
 ·rw [List.take_of_length_le (by omega)] at hO
  exact ⟨v,rfl,hO,hk3⟩
theorem rx' {a b:List Atom} (ha:aP' a 16 = true) (hb:aP' b 16 = true):∀ x v,hA' (a ++ b) x = some v -> (0 <= x /\ x < (17:Nat)) /\ 0 <= v /\ v <= 1000:=fun x v h=>by
 obtain ⟨y,hy,rfl,rfl⟩:=kv' h;rcases List.mem_append.1 hy with hy | hy
 ·have:=(bA' ha).2 y hy; omega
 ·have:=(bA' hb).2 y hy; omega
theorem tu' {w:World} {lo:Nat} {v:Value} {l:List Int} (h:w.ownsRow lo 3 1 v l.length (l.map (Value.int .i64))):∃ a cap,v = .slice a l.length cap /\ ∀ i x,l[i]? = some x -> ∃ g,a = some ⟨g,0,none⟩ /\ lo <= g /\ Cl w.heap g (0 + i * 1) (iV x):=by
 rcases h.2 with ⟨rfl,h0⟩ | ⟨g,cap,cur,rfl,hb,hg,hn,hm,hc,ht⟩
 ·exact ⟨none,0,by rw [h0],fun i x hi=>by have:=ai' hi; omega⟩
 ·refine ⟨_,cap,rfl,fun i x hi=>⟨g,rfl,hb,cur,3,(0,0),hg,?_⟩⟩
  have hil:=ai' hi;have h1:(cur.toList.take (l.length * 1))[i]? = (l.map (Value.int .i64))[i]?:=by rw [ht]
  rw [List.getElem?_take_of_lt (by omega)] at h1;simp only [List.getElem?_map,hi,Option.map_some] at h1;rw [Nat.zero_add,Nat.mul_one]
  simpa using h1
theorem uT' {C:Mem} {w:World} (hS:Sub C w) (a b:List Atom) (aa ab:Option Addr) (ca cb:Nat) (ha:Sl rAt C aa a) (hb:Sl rAt C ab b) :
  CC 136 #[.slice aa a.length ca,.slice ab b.length cb] w (fun e w'=>∃ ar cr,e = .returned (.tuple #[.slice ar (nO' a b).length cr,iV (mL' a b)]) /\ Sl rAt (New w.heap.size w') ar (nO' a b) /\ Kp [] w w'):=by
 refine oF Tryz.func136 ?_;refine cO (args:=[_,_]) 74 [.tmp 4,.tmp 5] τok Tryz.func136 ?_;have bad:∀ e w',mL' a b = e -> e ≠ 0 -> Kp [] w w' -> ∃ ar cr,Ending.returned (Go.Wx.one [.slice none 0 0,iV e]) = .returned (.tuple #[.slice ar (nO' a b).length cr,iV (mL' a b)]) /\ Sl rAt (New w.heap.size w') ar (nO' a b) /\ Kp [] w w':=fun e w' he h0 hk=>by
  have hr:nO' a b = []:=by unfold nO'; rw [if_neg (by rw [he]; exact h0)]
  rw [hr,he];exact ⟨none,0,rfl,Sl.nil _ _ _,hk⟩
 refine ab' (eM' a aa ca 16 w (Sl.atoms ha hS)) ?_;rintro e w1 ⟨rfl,hk1⟩;refine br (fun g1=>?_) (fun g1=>?_)
 ·exact bad 19 _ (by unfold mL'; rw [if_pos (.inl (by simpa using g1))]) (by omega) hk1
 have g1:aP' a 16 = true:=by simpa using g1
 refine ab' (eM' b ab cb 16 w1 (Sl.atoms hb (hS.tr hk1))) ?_;rintro e w2 ⟨rfl,hk2⟩;have k02:=hk1.tr hk2;refine br (fun g2=>?_) (fun g2=>?_)
 ·exact bad 19 _ (by unfold mL'; rw [if_pos (.inr (by simpa using g2))]) (by omega) k02
 have g2:aP' b 16 = true:=by simpa using g2
 have hE:mL' a b = if 4 < (maxL a b).length then 5 else 0:=by unfold mL'; rw [if_neg (by simp [g1,g2])]
 have hal:=(bA' g1).1;have hbl:=(bA' g2).1;have hal1:=(mK' g1).2;have hbl1:=(mK' g2).2;have hrng:=rx' g1 g2;refine MV.made fun bm w3 hbm hM3 hs3 hk3=>?_;have k03:=k02.tr hk3;refine fill [.slice aa a.length ca,.slice ab b.length cb] rfl ?_;refine new fun bx w4 hbx hBx hs4 hk4=>?_;have k04:=k03.tr hk4;obtain ⟨C1,hC1⟩:∃ C1:Mem,C1 = fun b' o v=>C b' o v \/ (b' = bx /\ [Value.slice aa a.length ca,.slice ab b.length cb][o]? = some v):=⟨_,rfl⟩
 have hS4:Sub C1 w4:=by
  rw [hC1];rintro b' o v (h | ⟨rfl,h⟩)
  ·exact (hS.tr k04) _ _ _ h
  ·exact hBx.cl h
 have hm1:∀ b o v,C b o v -> C1 b o v:=by rw [hC1]; exact fun b o v h=>Or.inl h
 have hls:Sl (rSl rAt) C1 (some ⟨bx,0,none⟩) [a,b]:=⟨by simp,.inr ⟨bx,0,rfl,fun i x hi=>by
  match i with
  | 0 =>
   simp at hi;subst hi;exact ⟨_,⟨aa,ca,rfl,ha.mono hm1⟩,fun j v hj=>by
    match j with
    | 0=>simp at hj; subst hj; rw [hC1]; exact Or.inr ⟨rfl,rfl⟩
    | j + 1=>simp at hj⟩
  | 1 =>
   simp at hi;subst hi;exact ⟨_,⟨ab,cb,rfl,hb.mono hm1⟩,fun j v hj=>by
    match j with
    | 0=>simp at hj; subst hj; rw [hC1]; exact Or.inr ⟨rfl,rfl⟩
    | j + 1=>simp at hj⟩
  | i + 2=>simp at hi⟩⟩
 refine ab' (pq' hS4 [a,b] (some ⟨bx,0,none⟩) 2 hls (by simp) (by simp; omega) (by simp; omega)) ?_;rintro e w5 ⟨v5,rfl,hO5,hk5⟩;have k05:=k04.tr hk5;have hfl:[a,b].flatten = a ++ b:=by simp
 rw [hfl] at hO5;have hlen:(a ++ b).length = a.length + b.length:=by simp
 obtain ⟨ac,cc,rfl,hSc⟩:=hO5.den (by omega);have hbml:=hM3.lt;refine lp τok (σ:=Nat × Nat) (fun q=>[(6,.map (some bm)),(26,.slice ac (a ++ b).length cc),(27,iV (a ++ b).length),(28,iV q.1)])
  (fun q w'=>q.1 <= (a ++ b).length /\ q.2 <= q.1 /\ MV w' bm (hA' ((a ++ b).take q.1)) q.2 /\ Kp [bm] w5 w') (fun q=>(a ++ b).length - q.1) (0,0) rfl ⟨rfl,rfl,rfl,rfl,trivial⟩ ⟨Nat.zero_le _,Nat.le_refl _,(hM3.kp hk4 (by simp)).kp hk5 (by simp),Kp.refl _ _⟩ ?_
 rintro ⟨i,n⟩ w6 ⟨hi,hn,hM,hk6⟩;simp only at hi hn hM;refine ac' (fun g3=>?_) (fun g3=>?_)
 ·have hlt:i < (a ++ b).length:=by omega
  obtain ⟨x,hx,hd⟩:=af' hlt;have htk:=al' hx;obtain ⟨bc,oc,rfl,hc0,hc1,hx1,hx2⟩:=rw' hSc hx;have z4:bm < w4.heap.size:=by have:=hk4.size; omega
  have hcv:Cl w6.heap bc (oc + i * 2) (iV x.var):=hc0.2.cl.kp hk6 (by have:=hc0.1; simp; omega);have hca:Cl w6.heap bc (oc + i * 2 + 1) (iV x.add):=hc1.2.cl.kp hk6 (by have:=hc1.1; simp; omega);have hml:=hM.lt;refine ix i rfl hlt ?_;refine ldN [iV x.var,iV x.add] rfl (fun j v hj=>?_) ?_
  ·match j with
   | 0=>simp at hj; subst hj; exact hcv
   | 1=>simp at hj; subst hj; exact hca
   | j + 2=>simp at hj
  refine new fun b7 w7 hb7 hB7 hs7 hk7=>?_;refine stN (vs:=[iV x.var,iV x.add]) hB7 rfl (by simp [Value.oneCell']) fun w8 hB8 hs8 hk8=>?_;have k68:Kp [] w6 w8:=hk7.newSt hb7 hk8;have hM8:=hM.kp k68 (by simp);have k58:Kp [bm] w5 w8:=hk6.tr k68;refine ld (hB8.cl rfl).cell ?_;refine hM8.look hx1 ?_;have next:∀ w',MV w' bm (upd (hA' ((a ++ b).take i)) x) (n + 1) -> Kp [bm] w5 w' -> MV w' bm (hA' ((a ++ b).take (i + 1))) (n + 1) /\ Kp [bm] w5 w':=fun w' h1 h2=>by
   rw [htk,ku'];exact ⟨h1,h2⟩
  generalize hF:hA' ((a ++ b).take i) = F at *
  refine br (fun g4=>?_) (fun g4=>?_)
  ·have g4:F x.var = none:=by simpa using g4
   refine ld (hB8.cl rfl).cell ?_;refine ld (hB8.cl rfl).cell ?_;refine hM8.put (by omega) hx1 hx2 fun w9 hM9 hk9=>?_;have hu:upd F x = pm' F x.var x.add:=by unfold upd; rw [g4]
   rw [<- hu] at hM9;obtain ⟨n1,n2⟩:=next w9 hM9 (k58.trans hk9 (fun y hy _=>hy));refine i6 ?_;exact ⟨(i + 1,n + 1),by simp only; omega,rfl,⟨rfl,rfl,rfl,rfl,trivial⟩,hlt,by simp only; omega,n1,n2⟩
  ·obtain ⟨u,hu⟩:∃ u,F x.var = some u:=Option.isSome_iff_exists.1 (by simpa using g4)
   refine ld (hB8.cl rfl).cell ?_;refine ac' (fun g5=>?_) (fun g5=>?_)
   ·have g5:u < x.add:=by
     have g5:(F x.var).getD 0 < x.add:=g5;rw [hu] at g5;exact g5
    refine ld (hB8.cl rfl).cell ?_;refine ld (hB8.cl rfl).cell ?_;refine hM8.put (by omega) hx1 hx2 fun w9 hM9 hk9=>?_;have hu':upd F x = pm' F x.var x.add:=by unfold upd; rw [hu]; simp only; rw [if_pos g5]
    rw [<- hu'] at hM9;obtain ⟨n1,n2⟩:=next w9 hM9 (k58.trans hk9 (fun y hy _=>hy));refine i6 ?_;exact ⟨(i + 1,n + 1),by simp only; omega,rfl,⟨rfl,rfl,rfl,rfl,trivial⟩,hlt,by simp only; omega,n1,n2⟩
   ·have g5:¬ u < x.add:=by
     have g5:¬ (F x.var).getD 0 < x.add:=g5;rw [hu] at g5;exact g5
    have hu':upd F x = F:=by unfold upd; rw [hu]; simp only; rw [if_neg g5]
    refine i6 ?_;refine ⟨(i + 1,n),by simp only; omega,rfl,⟨rfl,rfl,rfl,rfl,trivial⟩,hlt,by simp only; omega,?_,k58⟩;rw [htk,ku',hF,hu'];exact hM8
 rw [List.take_of_length_le (by omega)] at hM;have own:∀ {u},Kp [bm] w5 u -> Kp [] w u:=fun k=>k05.trans k (fun y hy hl=>by have:=k02.size; simp at hy; omega);obtain ⟨Dm,hDm,hperm,hsize⟩:=hM.keys (m:=17) (by omega) (fun x v h=>(hrng x v h).1);have hkl:(maxL a b).map Atom.var = eb' (hA' (a ++ b)) (List.range 17):=gC' _ _;have hkll:(eb' (hA' (a ++ b)) (List.range 17)).length = (maxL a b).length:=by rw [<- hkl]; simp
 refine run (hDm.len Tryz.underlying218 _) ?_;rw [hsize,hkll];refine ac' (fun g4=>?_) (fun g4=>?_)
 ·exact bad 5 _ (by rw [hE,if_pos (by omega)]) (by omega) (own hk6)
 have g4:(maxL a b).length <= 4:=by omega
 have hE0:mL' a b = 0:=by rw [hE,if_neg (by omega)]
 have hR:nO' a b = maxL a b:=by unfold nO'; rw [if_pos hE0]
 rw [hE0,hR];refine ab' (ts' bm w6) ?_;rintro e w7 ⟨rfl,rfl⟩;refine ab' (pl' hDm (by rw [hsize,hkll]; unfold maxLen; omega) (by rw [hsize,hkll]; omega)) ?_;rintro e w8 ⟨v8,ss,rfl,hss,hrow,hk8⟩;have hsp:=hss.trans hperm.symm;have hsl:=hsp.length_eq;rw [pp' hsp,hsl] at hrow;obtain ⟨asl,cs,rfl,hat⟩:=tu' hrow;rw [hkll];have k68:Kp [] w6 w8:=(Kp.alloc _ _).tr hk8;have k08:=own (hk6.tr k68);have hM8:=hM.kp k68 (by simp);have hmt:∀ (j:Nat) (x:Atom),(maxL a b)[j]? = some x -> hA' (a ++ b) x.var = some x.add /\ (eb' (hA' (a ++ b)) (List.range 17))[j]? = some x.var:=fun j x hj=>by
  refine ⟨?_,by rw [<- hkl,List.getElem?_map,hj]; rfl⟩;have:=List.mem_of_getElem? hj;unfold maxL at this;obtain ⟨v,_,hv⟩:=List.mem_filterMap.1 this;cases h:hA' (a ++ b) v with
  | none=>rw [h] at hv; cases hv
  | some n =>
   rw [h] at hv;obtain rfl:=Option.some.inj hv;exact h
 refine lp τok (σ:=Nat × Value) (fun q=>[(6,.map (some bm)),(11,q.2),(58,.slice asl (maxL a b).length cs),(59,iV (maxL a b).length),(60,iV q.1)])
  (fun q w'=>q.1 <= (maxL a b).length /\ Own rAt 193 w8.heap.size w' q.2 ((maxL a b).take q.1) /\ Kp [] w8 w') (fun q=>(maxL a b).length - q.1) (0,.slice none 0 0) rfl ⟨rfl,rfl,rfl,rfl,rfl,trivial⟩ ⟨Nat.zero_le _,Own.nil _ _ (Nat.le_refl _),Kp.refl _ _⟩ ?_
 rintro ⟨j,v9⟩ w9 ⟨hj,hO9,hk9⟩;simp only at hj hO9;refine ac' (fun g5=>?_) (fun g5=>?_)
 ·have hlt:j < (maxL a b).length:=by omega
  obtain ⟨x,hx,hd⟩:=af' hlt;obtain ⟨hmx,hkx⟩:=hmt j x hx;obtain ⟨g,rfl,hglo,hgc⟩:=hat j x.var hkx;have hvr:=hrng _ _ hmx;have hI1:I64 x.var:=by unfold I64; omega
  have hI2:I64 x.add:=by unfold I64; omega
  refine ix j rfl hlt ?_;refine ld (hgc.kp hk9 (by simp)).cell ?_;refine (hM8.kp hk9 (by simp)).look1 hI1 ?_;rw [hmx];refine fill [iV x.var,iV x.add] rfl ?_;refine new fun bz wz hbz hBz hsz hkz=>?_;have hlen9:((maxL a b).take j).length = j:=by simp; omega
  refine (hO9.kp hkz).ap1 τok rfl rfl (by decide) x [iV x.var,iV x.add] ⟨rfl,hI1,hI2⟩ (bZ hBz) (by rw [hlen9]; omega) (by rw [hlen9]; unfold maxLen; omega) fun v10 w10 hO10 hk10 _=>?_;refine i6 ?_;refine ⟨(j + 1,v10),by simp only; omega,rfl,⟨rfl,rfl,rfl,rfl,rfl,trivial⟩,hlt,?_,(hk9.tr hkz).own hk10 (hO9.kp hkz)⟩;rw [al' hx];exact hO10
 ·rw [List.take_of_length_le (by omega)] at hO9
  obtain ⟨ar,cr,rfl,hSr⟩:=hO9.den (by omega);exact ⟨ar,cr,rfl,hSr.mono (New.up k08.size (Kp.refl _ _)),k08.tr hk9⟩
theorem ry' {C:Mem} {w:World} (hS:Sub C w) (l:List Atom) (a:Option Addr) (cap:Nat) (hl:Sl rAt C a l) (hll:l.length <= 1000) :
  CC 158 #[.slice a l.length cap] w (fun e w'=>∃ v,e = .returned v /\ Own rAt 193 w.heap.size w' v l /\ Kp [] w w'):=by
 refine oF Tryz.func158 ?_;refine cO (args:=[_]) 8 [.tmp 2] τok Tryz.func158 ?_;refine oe' τok rfl ?_;refine br (fun g=>?_) (fun g=>?_)
 ·have h0:l = []:=by
   rcases hl.2 with h0 | ⟨b,o,rfl,_⟩
   ·exact List.length_eq_zero_iff.1 h0
   ·simp at g
  subst h0;exact ⟨_,rfl,Own.nil _ _ (Nat.le_refl _),Kp.refl _ _⟩
 ·refine fill [] rfl ?_
  refine new fun b1 w1 hb1 hB1 hs1 hk1=>?_;have hO:Own rAt 193 w.heap.size w1 (.slice (some ⟨b1,0,none⟩) 0 0) []:=Own.empty _ hB1 (by omega);refine hO.apF τok rfl rfl (by decide) sq' (hS.tr hk1) l hl (by simp; omega) (by simp [maxLen]; omega) fun v w2 hO2 hk2 _=>?_;exact ⟨v,rfl,by simpa using hO2,hk1.own hk2 hO⟩
def upE (a:List Atom) (by':Int):Int:=if aP' a 16 = false then 19 else if by' < 0 then 1 else if a.any (fun x=>decide (1000 < x.add + by')) then 6 else 0
def upL (a:List Atom) (by':Int):List Atom:=a.map fun x=>⟨x.var,x.add + by'⟩
def upR (a:List Atom) (by':Int):List Atom:=if upE a by' = 0 then upL a by' else []
theorem vZ' {C:Mem} {w:World} (hS:Sub C w) (a:List Atom) (by':Int) (aa:Option Addr) (ca:Nat) (ha:Sl rAt C aa a) (hby:I64 by') :
  CC 131 #[.slice aa a.length ca,iV by'] w (fun e w'=>∃ ar cr,e = .returned (.tuple #[.slice ar (upR a by').length cr,iV (upE a by')]) /\ Sl rAt (New w.heap.size w') ar (upR a by') /\ Kp [] w w'):=by
 refine oF Tryz.func131 ?_;refine cO (args:=[_,_]) 39 [.tmp 4,.tmp 5] τok Tryz.func131 ?_;have bad:∀ e w',upE a by' = e -> e ≠ 0 -> Kp [] w w' -> ∃ ar cr,Ending.returned (Go.Wx.one [.slice none 0 0,iV e]) = .returned (.tuple #[.slice ar (upR a by').length cr,iV (upE a by')]) /\ Sl rAt (New w.heap.size w') ar (upR a by') /\ Kp [] w w':=fun e w' he h0 hk=>by
  have hr:upR a by' = []:=by unfold upR; rw [if_neg (by rw [he]; exact h0)]
  rw [hr,he];exact ⟨none,0,rfl,Sl.nil _ _ _,hk⟩
 refine ab' (eM' a aa ca 16 w (Sl.atoms ha hS)) ?_;rintro e w1 ⟨rfl,hk1⟩;refine br (fun g1=>?_) (fun g1=>?_)
 ·exact bad 19 _ (by unfold upE; rw [if_pos (by simpa using g1)]) (by omega) hk1
 have g1:aP' a 16 = true:=by simpa using g1
 refine ac' (fun g2=>?_) (fun g2=>?_)
 ·exact bad 1 _ (by unfold upE; rw [if_neg (by simp [g1]),if_pos g2]) (by omega) hk1
 have hE:upE a by' = if a.any (fun x=>decide (1000 < x.add + by')) then 6 else 0:=by unfold upE; rw [if_neg (by simp [g1]),if_neg g2]
 have hadd:=(bA' g1).2;have hal:=(bA' g1).1;unfold I64 at hby;refine ab' (ry' (hS.tr hk1) a aa ca ha (by omega)) ?_;rintro e w2 ⟨v,rfl,hO,hk2⟩;have k02:=hk1.tr hk2;have z1:=hk1.size;obtain ⟨av,cv,rfl⟩:=hO.len;refine lp τok (σ:=Nat) (fun i=>[(1,iV by'),(6,.slice av a.length cv),(16,iV a.length),(17,iV i)])
  (fun i w'=>i <= a.length /\ Own rAt 193 w1.heap.size w' (.slice av a.length cv) ((upL a by').take i ++ a.drop i) /\ Kp [] w1 w' /\ ∀ x ∈ a.take i,x.add + by' <= 1000) (fun i=>a.length - i) 0 rfl ⟨rfl,rfl,rfl,rfl,trivial⟩ ⟨Nat.zero_le _,by simpa using hO,hk2,by simp⟩ ?_
 clear hO
 rintro i w3 ⟨hi,hO,hk3,hall⟩;have hul:(upL a by').length = a.length:=by simp [upL]
 refine ac' (fun g3=>?_) (fun g3=>?_)
 ·have hlt:i < a.length:=by omega
  obtain ⟨x,hx,hd⟩:=af' hlt;have hxa:=hadd x (List.mem_of_getElem? hx);have hul':(upL a by')[i]? = some ⟨x.var,x.add + by'⟩:=by simp [upL,hx]
  have hcur:((upL a by').take i ++ a.drop i)[i]? = some x:=by
   rw [List.getElem?_append_right (by simp; omega)];have:i - ((upL a by').take i).length = 0:=by rw [List.length_take,hul]; omega
   rw [this,hd]
   rfl
  have hlen3:((upL a by').take i ++ a.drop i).length = a.length:=by simp; omega
  obtain ⟨a0,c0,e0,hSl⟩:=hO.den (by omega);rw [hlen3] at e0;cases e0;obtain ⟨g,o,rfl,hc0,hc1,_,_⟩:=rw' hSl hcur;refine ix i rfl hlt ?_;refine ld (hc1.2.cl).cell ?_;refine i6 ?_;refine ac' (fun g4=>?_) (fun g4=>?_)
  ·refine bad 6 _ ?_ (by omega) (hk1.tr hk3)
   rw [hE,if_pos];exact List.any_eq_true.2 ⟨x,List.mem_of_getElem? hx,by simp; omega⟩
  refine ix i rfl hlt ?_;refine ld (hc1.2.cl).cell ?_;refine i6 ?_;refine ix i rfl hlt ?_;obtain ⟨g',c',e1,hg,hst⟩:=hO.st (j:=1) (x:=x) (y:=⟨x.var,x.add + by'⟩) hcur (by decide) (u:=iV (x.add + by')) rfl (fun cs hcs=>by
   obtain ⟨rfl,_,_⟩:=hcs;exact ⟨rfl,by unfold I64; simp only; omega,by unfold I64; simp only; omega⟩)
  rw [hlen3] at e1;injection e1 with e2 e3 e4
  injection e2 with e2
  injection e2 with e5 e6
  subst e5 e6;refine hst fun w4 hO4 hs4 hk4=>?_;refine i6 ?_;refine ⟨i + 1,by omega,rfl,⟨rfl,rfl,rfl,rfl,trivial⟩,hlt,?_,hk3.trans hk4 (fun y hy hl=>by simp at hy; omega),?_⟩
  ·have e7:((upL a by').take i ++ a.drop i).set i ⟨x.var,x.add + by'⟩ = (upL a by').take (i + 1) ++ a.drop (i + 1):=by
    rw [List.set_append_right _ _ (by simp; omega)];have:i - ((upL a by').take i).length = 0:=by rw [List.length_take,hul]; omega
    rw [this,hd,al' hul'];simp
   rw [e7] at hO4;exact hO4
  ·rw [al' hx]
   intro y hy;rcases List.mem_append.1 hy with hy | hy
   ·exact hall y hy
   ·simp at hy; subst hy; omega
 ·rw [List.take_of_length_le (by omega),List.drop_eq_nil_of_le (by omega),List.append_nil] at hO
  rw [List.take_of_length_le (by omega)] at hall;have hE0:upE a by' = 0:=by
   rw [hE,if_neg];intro h;obtain ⟨x,hx,h1⟩:=List.any_eq_true.1 h;have:=hall x hx;simp at h1;omega
  have hR:upR a by' = upL a by':=by unfold upR; rw [if_pos hE0]
  rw [hR,hE0];obtain ⟨a0,c0,e0,hSl⟩:=hO.den (by omega);rw [hul] at e0 ⊢;cases e0;exact ⟨av,cv,rfl,hSl.mono (New.up z1 (Kp.refl _ _)),hk1.tr hk3⟩
open Go.Wx Cd Tm Lv
theorem uU' {p q:Nd}:(p.op = q.op /\ p.a = q.a /\ p.b = q.b) ↔ p = q:=by
 obtain ⟨a,b,c⟩:=p;obtain ⟨a',b',c'⟩:=q;constructor
 ·rintro ⟨h1,h2,h3⟩
  simp only at h1 h2 h3;subst h1 h2 h3
  rfl
 ·intro h
  injection h with h1 h2 h3
  exact ⟨h1,h2,h3⟩
instance ndDec:DecidableEq Nd:=fun p q=>decidable_of_iff (p.op = q.op /\ p.a = q.a /\ p.b = q.b) uU'
theorem eQ' (x y:Operand) (p q:Nd) (w:World):(do eqGuard .neq 43 x y (ndV p) (ndV q); binOp .neq 43 (ndV p) (ndV q):Sem Value).run Tryz.prog w = .ok (.bool (!decide (p = q))) w:=by
 have hfs : (Tryz.prog.fieldsOf 43).toList.map (fun f => (f.name != "_", f.offset, f.type)) = [(true, 0, 3), (true, 1, 3), (true, 2, 3)] := by kernel_rfl
 have hu:Tryz.prog.underlying 43 = some (.struct (Tryz.prog.fieldsOf 43)):=by kernel_rfl
 have hm:Tryz.prog.eqGuardType Tryz.prog.depth 43 = false:=by kernel_rfl
 have hst:Tryz.prog.stoodInHeld 43 = false:=by kernel_rfl
 simp only [Sem.run_bind,run_eqGuard_agg w .neq 43 x y _ _ hm,Result.andThen_ok,run_neq_struct];rw [show (10000:Nat) = 9999 + 1 from rfl,run_equalIn_struct w 9999 43 _ _ hu hst]
 generalize (Tryz.prog.fieldsOf 43).toList = fs at hfs
 have hfl:fs.length = 3:=by have:=congrArg List.length hfs; simpa using this
 match fs,hfl,hfs with
 | [f,g,h],_,hfs =>
  simp only [List.map_cons,List.map_nil,List.cons.injEq,Prod.mk.injEq,bne_iff_ne,ne_eq,and_true] at hfs;obtain ⟨⟨n1,o1,t1⟩,⟨n2,o2,t2⟩,n3,o3,t3⟩:=hfs;have e1:∀ (a b:Int) (w:World),(Op.equalIn 9999 3 (iV a) (iV b)).run Tryz.prog w = .ok (a == b) w:=fun a b w=>by rw [show (9999:Nat) = 9998 + 1 from rfl]; exact run_equalIn_int w 9998 3 .i64 .i64 a b Tryz.underlying3
  have p0:∀ (a b c:Value) (w:World),(part 3 #[a,b,c] 0).run Tryz.prog w = .ok a w:=fun a b c w=>by simp [part,isAgg,run_underlying Tryz.underlying3]
  have p1:∀ (a b c:Value) (w:World),(part 3 #[a,b,c] 1).run Tryz.prog w = .ok b w:=fun a b c w=>by simp [part,isAgg,run_underlying Tryz.underlying3]
  have p2:∀ (a b c:Value) (w:World),(part 3 #[a,b,c] 2).run Tryz.prog w = .ok c w:=fun a b c w=>by simp [part,isAgg,run_underlying Tryz.underlying3]
  obtain ⟨pv,pa,pc⟩:=p;obtain ⟨qv,qa,qc⟩:=q
  by_cases h1:pv = qv
  ·subst h1
   by_cases h2:pa = qa
   ·subst h2
    by_cases h3:pc = qc
    ·subst h3
     simp [Op.eqFields,n1,n2,n3,o1,o2,o3,t1,t2,t3,p0,p1,p2,e1]
    ·simp [Op.eqFields,n1,n2,n3,o1,o2,o3,t1,t2,t3,p0,p1,p2,e1,h3]
   ·simp [Op.eqFields,n1,n2,n3,o1,o2,o3,t1,t2,t3,p0,p1,p2,e1,h2]
  ·simp [Op.eqFields,n1,n2,n3,o1,o2,o3,t1,t2,t3,p0,p1,p2,e1,h1]
theorem gc' (x y:Operand) (p q:Nd) (w:World):(do eqGuard .eql 43 x y (ndV p) (ndV q); binOp .eql 43 (ndV p) (ndV q):Sem Value).run Tryz.prog w = .ok (.bool (decide (p = q))) w:=by
 have hfs : (Tryz.prog.fieldsOf 43).toList.map (fun f => (f.name != "_", f.offset, f.type)) = [(true, 0, 3), (true, 1, 3), (true, 2, 3)] := by kernel_rfl
 have hu:Tryz.prog.underlying 43 = some (.struct (Tryz.prog.fieldsOf 43)):=by kernel_rfl
 have hm:Tryz.prog.eqGuardType Tryz.prog.depth 43 = false:=by kernel_rfl
 have hst:Tryz.prog.stoodInHeld 43 = false:=by kernel_rfl
 simp only [Sem.run_bind,run_eqGuard_agg w .eql 43 x y _ _ hm,Result.andThen_ok,run_eql_struct];rw [show (10000:Nat) = 9999 + 1 from rfl,run_equalIn_struct w 9999 43 _ _ hu hst]
 generalize (Tryz.prog.fieldsOf 43).toList = fs at hfs
 have hfl:fs.length = 3:=by have:=congrArg List.length hfs; simpa using this
 match fs,hfl,hfs with
 | [f,g,h],_,hfs =>
  simp only [List.map_cons,List.map_nil,List.cons.injEq,Prod.mk.injEq,bne_iff_ne,ne_eq,and_true] at hfs;obtain ⟨⟨n1,o1,t1⟩,⟨n2,o2,t2⟩,n3,o3,t3⟩:=hfs;have e1:∀ (a b:Int) (w:World),(Op.equalIn 9999 3 (iV a) (iV b)).run Tryz.prog w = .ok (a == b) w:=fun a b w=>by rw [show (9999:Nat) = 9998 + 1 from rfl]; exact run_equalIn_int w 9998 3 .i64 .i64 a b Tryz.underlying3
  have p0:∀ (a b c:Value) (w:World),(part 3 #[a,b,c] 0).run Tryz.prog w = .ok a w:=fun a b c w=>by simp [part,isAgg,run_underlying Tryz.underlying3]
  have p1:∀ (a b c:Value) (w:World),(part 3 #[a,b,c] 1).run Tryz.prog w = .ok b w:=fun a b c w=>by simp [part,isAgg,run_underlying Tryz.underlying3]
  have p2:∀ (a b c:Value) (w:World),(part 3 #[a,b,c] 2).run Tryz.prog w = .ok c w:=fun a b c w=>by simp [part,isAgg,run_underlying Tryz.underlying3]
  obtain ⟨pv,pa,pc⟩:=p;obtain ⟨qv,qa,qc⟩:=q
  by_cases h1:pv = qv
  ·subst h1
   by_cases h2:pa = qa
   ·subst h2
    by_cases h3:pc = qc
    ·subst h3
     simp [Op.eqFields,n1,n2,n3,o1,o2,o3,t1,t2,t3,p0,p1,p2,e1]
    ·simp [Op.eqFields,n1,n2,n3,o1,o2,o3,t1,t2,t3,p0,p1,p2,e1,h3]
   ·simp [Op.eqFields,n1,n2,n3,o1,o2,o3,t1,t2,t3,p0,p1,p2,e1,h2]
  ·simp [Op.eqFields,n1,n2,n3,o1,o2,o3,t1,t2,t3,p0,p1,p2,e1,h1]
theorem Kp.hold {C:Mem} {w w':World} {X:List Nat} (k:Kp X w w') (hold:∀ b o v,C b o v -> b < w.heap.size):∀ b o v,C b o v -> b < w'.heap.size:=fun b o v h=>Nat.lt_of_lt_of_le (hold b o v h) k.size
section
variable {C D:Mem} {w:World}
theorem gd' (hS:Sub C w) (hD:Sub D w) (l m:List Nd) (a a':Option Addr) (c c':Nat) (hl:Sl rNd C a l) (hm:Sl rNd D a' m) :
  CC 69 #[.slice a l.length c,.slice a' m.length c'] w (fun e w'=>e = .returned (.bool (decide (l = m))) /\ Kp [] w w'):=by
 refine oF Tryz.func69 ?_;have hlen:=hl.1;obtain ⟨RES,hRES⟩:∃ r,decide (l = m) = r:=⟨_,rfl⟩
 rw [hRES];refine cO (args:=[_,_]) 26 [.tmp 4] τok Tryz.func69 ?_;refine ac' (fun h1=>?_) (fun h1=>?_)
 ·have:¬ l = m:=fun e=>h1 (by rw [e])
  exact ⟨by rw [<- hRES,decide_eq_false this]; rfl,Kp.refl _ _⟩
 have h1:l.length = m.length:=by
  have:(l.length:Int) = m.length:=by simpa using h1
  omega
 refine lp τok (σ:=Nat) (fun k=>[(0,.slice a l.length c),(1,.slice a' m.length c'),(12,iV l.length),(13,iV k)]) (fun k w'=>k <= l.length /\ Kp [] w w' /\ RES = decide (l.drop k = m.drop k)) (fun k=>l.length - k) 0 rfl
  ⟨rfl,rfl,rfl,rfl,trivial⟩ ⟨Nat.zero_le _,Kp.refl _ _,hRES.symm⟩ ?_
 rintro k w1 ⟨hk,hkp,hr⟩;refine ac' (fun h=>?_) (fun h=>?_)
 ·have hlt:k < l.length:=by omega
  obtain ⟨x,hx,hd⟩:=af' hlt;obtain ⟨y,hy,hd'⟩:=af' (l:=m) (k:=k) (by omega);rw [hd,hd'] at hr;have hS1:=hS.tr hkp;have hD1:=hD.tr hkp;obtain ⟨b,o,rfl,_,_,_,hc⟩:=eB' hl hx;obtain ⟨b',o',rfl,_,_,_,hc'⟩:=eB' hm hy;refine oa' τok (fun w'=>Kp [] w1 w') (by kernel_rfl) (kQd w1) ?_;refine ix k rfl hlt ?_;refine aO' [iV x.op,iV x.a,iV x.b] rfl (fun j v hj=>hS1 _ _ _ (hc j v hj)) ?_;refine ix k rfl (by omega) ?_;refine aO' [iV y.op,iV y.a,iV y.b] rfl (fun j v hj=>hD1 _ _ _ (hc' j v hj)) ?_;refine sM' (v:=.bool (!decide (x = y))) (fun w _=>eQ' _ _ x y w) ?_;intro w2 hk2;refine br (fun hc=>?_) (fun hc=>?_)
  ·have:x ≠ y:=by simpa using hc
   refine ⟨?_,hkp.tr hk2⟩;rw [hr,decide_eq_false (by simp [this])]
   rfl
  ·have:x = y:=by simpa using hc
   subst this;refine i6 ?_;refine ⟨k + 1,by omega,rfl,⟨rfl,rfl,rfl,rfl,trivial⟩,hlt,hkp.tr hk2,?_⟩;rw [hr];simp
 ·refine ⟨?_,hkp⟩
  rw [hr,List.drop_eq_nil_of_le (by omega),List.drop_eq_nil_of_le (by omega)]
  rfl
theorem pr' (hS:Sub C w) (hD:Sub D w) (l m:List Int) (a a':Option Addr) (c c':Nat) (hl:Sl rInt C a l) (hm:Sl rInt D a' m) :
  CC 232 #[.slice a l.length c,.slice a' m.length c'] w (fun e w'=>e = .returned (.bool (decide (l = m))) /\ Kp [] w w'):=by
 refine oF Tryz.func232 ?_;have hlen:=hl.1;obtain ⟨RES,hRES⟩:∃ r,decide (l = m) = r:=⟨_,rfl⟩
 rw [hRES];refine cO (args:=[_,_]) 26 [.tmp 4] τok Tryz.func232 ?_;refine ac' (fun h1=>?_) (fun h1=>?_)
 ·have:¬ l = m:=fun e=>h1 (by rw [e])
  exact ⟨by rw [<- hRES,decide_eq_false this]; rfl,Kp.refl _ _⟩
 have h1:l.length = m.length:=by
  have:(l.length:Int) = m.length:=by simpa using h1
  omega
 refine lp τok (σ:=Nat) (fun k=>[(0,.slice a l.length c),(1,.slice a' m.length c'),(12,iV l.length),(13,iV k)]) (fun k w'=>k <= l.length /\ Kp [] w w' /\ RES = decide (l.drop k = m.drop k)) (fun k=>l.length - k) 0 rfl
  ⟨rfl,rfl,rfl,rfl,trivial⟩ ⟨Nat.zero_le _,Kp.refl _ _,hRES.symm⟩ ?_
 rintro k w1 ⟨hk,hkp,hr⟩;refine ac' (fun h=>?_) (fun h=>?_)
 ·have hlt:k < l.length:=by omega
  obtain ⟨x,hx,hd⟩:=af' hlt;obtain ⟨y,hy,hd'⟩:=af' (l:=m) (k:=k) (by omega);rw [hd,hd'] at hr;have hS1:=hS.tr hkp;have hD1:=hD.tr hkp;obtain ⟨b,o,rfl,hc,_⟩:=Sl.int hl hx;obtain ⟨b',o',rfl,hc',_⟩:=Sl.int hm hy;refine oa' τok (fun w'=>Kp [] w1 w') (by kernel_rfl) (kQd w1) ?_;refine ix k rfl hlt ?_;refine ldK (hS1 _ _ _ hc) ?_;refine ix k rfl (by omega) ?_;refine ldK (hD1 _ _ _ hc') ?_;intro w2 hk2;refine br (fun hc=>?_) (fun hc=>?_)
  ·have:x ≠ y:=by simpa using hc
   refine ⟨?_,hkp.tr hk2⟩;rw [hr,decide_eq_false (by simp [this])]
   rfl
  ·have:x = y:=by simpa using hc
   subst this;refine i6 ?_;refine ⟨k + 1,by omega,rfl,⟨rfl,rfl,rfl,rfl,trivial⟩,hlt,hkp.tr hk2,?_⟩;rw [hr];simp
 ·refine ⟨?_,hkp⟩
  rw [hr,List.drop_eq_nil_of_le (by omega),List.drop_eq_nil_of_le (by omega)]
  rfl
theorem gD' (hS:Sub C w) (hD:Sub D w) (l m:List Nd) (a a':Option Addr) (c c':Nat) (hl:Sl rNd C a l) (hm:Sl rNd D a' m) :
  CC 27 #[.slice a l.length c,.slice a' m.length c'] w (fun e w'=>e = .returned (.bool (decide (l = m))) /\ Kp [] w w'):=by
 refine oF Tryz.func27 ?_;have hlen:=hl.1;obtain ⟨RES,hRES⟩:∃ r,decide (l = m) = r:=⟨_,rfl⟩
 rw [hRES];refine cO (args:=[_,_]) 26 [.tmp 4] τok Tryz.func27 ?_;refine ac' (fun h1=>?_) (fun h1=>?_)
 ·have:¬ l = m:=fun e=>h1 (by rw [e])
  exact ⟨by rw [<- hRES,decide_eq_false this]; rfl,Kp.refl _ _⟩
 have h1:l.length = m.length:=by
  have:(l.length:Int) = m.length:=by simpa using h1
  omega
 refine lp τok (σ:=Nat) (fun k=>[(0,.slice a l.length c),(1,.slice a' m.length c'),(5,iV k)]) (fun k w'=>k <= l.length /\ Kp [] w w' /\ RES = decide (l.drop k = m.drop k)) (fun k=>l.length - k) 0 rfl
  ⟨rfl,rfl,rfl,trivial⟩ ⟨Nat.zero_le _,Kp.refl _ _,hRES.symm⟩ ?_
 rintro k w1 ⟨hk,hkp,hr⟩;refine ac' (fun h=>?_) (fun h=>?_)
 ·have hlt:k < l.length:=by omega
  obtain ⟨x,hx,hd⟩:=af' hlt;obtain ⟨y,hy,hd'⟩:=af' (l:=m) (k:=k) (by omega);rw [hd,hd'] at hr;have hS1:=hS.tr hkp;have hD1:=hD.tr hkp;obtain ⟨b,o,rfl,_,_,_,hc⟩:=eB' hl hx;obtain ⟨b',o',rfl,_,_,_,hc'⟩:=eB' hm hy;refine oa' τok (fun w'=>Kp [] w1 w') (by kernel_rfl) (kQd w1) ?_;refine ix k rfl hlt ?_;refine aO' [iV x.op,iV x.a,iV x.b] rfl (fun j v hj=>hS1 _ _ _ (hc j v hj)) ?_;refine ix k rfl (by omega) ?_;refine aO' [iV y.op,iV y.a,iV y.b] rfl (fun j v hj=>hD1 _ _ _ (hc' j v hj)) ?_;refine sM' (v:=.bool (!decide (x = y))) (fun w _=>eQ' _ _ x y w) ?_;intro w2 hk2;refine br (fun hc=>?_) (fun hc=>?_)
  ·have:x ≠ y:=by simpa using hc
   refine ⟨?_,hkp.tr hk2⟩;rw [hr,decide_eq_false (by simp [this])]
   rfl
  ·have:x = y:=by simpa using hc
   subst this;refine i6 ?_;refine ⟨k + 1,by omega,rfl,⟨rfl,rfl,rfl,trivial⟩,hlt,hkp.tr hk2,?_⟩;rw [hr];simp
 ·refine ⟨?_,hkp⟩
  rw [hr,List.drop_eq_nil_of_le (by omega),List.drop_eq_nil_of_le (by omega)]
  rfl
def cj' (x:Tr):List Atom:=x.ks.map fun k=>⟨k.n.a,k.n.b⟩
theorem jj' {x:Tr} (hx:Ok .tm x) (h2:x.n.op = 2):row x = x.n :: x.ks.map (·.n) /\ x.ks.length <= 4 /\ (x.ks.length:Int) = x.n.b /\ ∀ k ∈ x.ks,k.n.op = 3 /\ ah' k.n = true:=by
 obtain ⟨n,ks⟩:=x;simp only [Tr.n,Tr.ks] at h2 ⊢;obtain ⟨hc,hok,hi⟩:=hx.kids;obtain ⟨hp,_,_,hk⟩:=bC' hc;rw [if_pos h2] at hk;have hpp:(n.a = 0 \/ n.a = 1) /\ inR n.b 1 4 = true:=by simpa [ah',h2] using hp
 have:=aC'.1 hpp.2;have each:∀ (l:List Tr) (k:Nat),okL cnt nx l n .tm k -> ∀ y ∈ l,y.n.op = 3 /\ ah' y.n = true /\ y.ks = []:=by
  intro l
  induction l with
  | nil=>intro k _ y hy; cases hy
  | cons z l ih =>
   intro k h y hy;rcases List.mem_cons.1 hy with rfl | hy
   ·obtain ⟨m,s⟩:=y
    have h1:=h.1.1;rw [show nx Md.tm n k = .am by simp [nx,h2]] at h1;simp only [cnt] at h1;split at h1
    ·rename_i g
     exact ⟨g.1,g.2,List.length_eq_zero_iff.1 (Option.some.inj h1).symm⟩
    ·cases h1
   ·exact ih _ h.2 y hy
 have all:=each ks 0 hok;refine ⟨?_,by omega,by omega,fun k hk=>⟨(all k hk).1,(all k hk).2.1⟩⟩;simp only [row]
 congr 1
 have:∀ (l:List Tr),(∀ y ∈ l,y.ks = []) -> rows l = l.map (·.n):=by
  intro l
  induction l with
  | nil=>intro _; rfl
  | cons y l ih =>
   intro h;obtain ⟨m,s⟩:=y;have:s = []:=h (.mk m s) (by simp);subst this;simp only [rows,row,List.map_cons,Tr.n];rw [ih fun y hy=>h y (by simp [hy])]
   rfl
 exact this ks fun y hy=>(all y hy).2.2
def placesM (x:Tr):List Int:=x.ks.map (·.n.a)
end
theorem Sl.ordV {C:Mem} {w:World} {a:Option Addr} {l:List aR'} (h:Sl rOr C a l) (hS:Sub C w):kl' w.heap.size w.heap a l:=by
 refine ⟨?_,fun x hx=>?_⟩
 ·rcases h.2 with h0 | ⟨b,o,ha,hc⟩
  ·exact .inl h0
  ·rcases Nat.eq_zero_or_pos l.length with h0 | h0
   ·exact .inl h0
   have key:∀ i j,i < l.length -> j < 3 -> Cl w.heap b (o + i * 3 + j) (iV (if j = 0 then (l.getD i default).low else if j = 1 then (l.getD i default).add else (l.getD i default).high)):=fun i j hi hj=>by
    obtain ⟨cs,⟨rfl,_⟩,h5⟩:=hc i l[i] (by simp);have e:l.getD i default = l[i]:=by simp [hi]
    rw [e]
    match j,hj with
    | 0,_=>exact hS _ _ _ (h5 0 _ rfl)
    | 1,_=>exact hS _ _ _ (h5 1 _ rfl)
    | 2,_=>exact hS _ _ _ (h5 2 _ rfl)
   exact .inr ⟨b,o,ha,(key 0 0 h0 (by omega)).lt,key⟩
 ·obtain ⟨i,hi⟩:=List.getElem?_of_mem hx
  obtain ⟨b,o,ha,hc⟩:=h.at (ai' hi)
  obtain ⟨cs,⟨rfl,h1⟩,h5⟩:=hc i x hi;exact h1
section
variable {C:Mem} {w:World} {Q:Nd -> Prop} {N:Int} {x y:Tr} {v:Value}
theorem dU' (hS:Sub C w) (hx:Ft Q N x) (h2:x.n.op = 2) (hv:TmV C x v) :
  CC 132 #[v] w (fun e w'=>∃ a c,e = .returned (.slice a (cj' x).length c) /\ Sl rAt (New w.heap.size w') a (cj' x) /\ Kp [] w w'):=by
 refine oF Tryz.func132 ?_;obtain ⟨hrow,hl4,hlb,hks⟩:=jj' hx.ok h2;have hp:=hx.ok.pl;have hpp:(x.n.a = 0 \/ x.n.a = 1) /\ inR x.n.b 1 4 = true:=by simpa [ah',h2] using hp
 have hb1:=aC'.1 hpp.2;have hvv:=hv;obtain ⟨b,o,c,rfl,_,_,_,_⟩:=hv.hd;have hlen:(row x).length = x.ks.length + 1:=by rw [hrow]; simp
 have hll:(cj' x).length = x.ks.length:=by simp [cj']
 refine cO (args:=[_]) 23 [.tmp 2] τok Tryz.func132 ?_;obtain ⟨_,_,hvc,_,hcc⟩:=hvv;injection hvc with _ _ q3
 refine iE' τok rfl 1 (.slice (some ⟨b,o + 1 * 3,none⟩) ((row x).length - 1) (c - 1)) rfl (by omega) (eA' (by omega)) ?_;have e1:(row x).length - 1 = x.ks.length:=by omega
 rw [e1];refine lp τok (σ:=Nat × Value) (fun q=>[(3,q.2),(7,.slice (some ⟨b,o + 1 * 3,none⟩) x.ks.length (c - 1)),(8,iV (x.ks.length:Int)),(9,iV (q.1:Int))])
  (fun q w'=>q.1 <= x.ks.length /\ Own rAt 193 w.heap.size w' q.2 ((cj' x).take q.1) /\ Kp [] w w') (fun q=>x.ks.length - q.1) (0,.slice none 0 0) rfl
  ⟨rfl,rfl,rfl,rfl,trivial⟩ ⟨Nat.zero_le _,Own.nil _ _ (Nat.le_refl _),Kp.refl _ _⟩ ?_
 rintro ⟨i,v1⟩ w1 ⟨hi,hO,hk1⟩;simp only at hi hO;refine ac' (fun g=>?_) (fun g=>?_)
 ·have g:(i:Int) < x.ks.length:=g
  obtain ⟨k,hk,_⟩:=af' (l:=x.ks) (k:=i) (by omega);have hki:=hks k (List.mem_of_getElem? hk);obtain ⟨b',o',c',hve,hi1,hi2,hi3,hc⟩:=hv.nd (i:=i + 1) (n:=k.n) (by rw [hrow]; simp [hk]);injection hve with q1 q2 q4
  injection q1 with q1
  injection q1 with q1 q5 q6
  subst q1 q5;have hlv:(cj' x)[i]? = some ⟨k.n.a,k.n.b⟩:=by simp [cj',hk]
  refine ix i rfl (by omega) ?_;refine ldN [iV k.n.op,iV k.n.a,iV k.n.b] rfl (fun j u hj=>by
   have:=hc j u hj;rw [show o + (i + 1) * 3 + j = o + 1 * 3 + i * 3 + j by omega] at this;exact hS.tr hk1 _ _ _ this) ?_
  refine new fun b5 w2 hb5 h5 hs2 hk2=>?_;refine stN (vs:=[iV k.n.op,iV k.n.a,iV k.n.b]) h5 rfl (by simp [Value.oneCell']) fun w3 h5 hs3 hk3=>?_;have k13:=hk2.newSt hb5 hk3;refine lb h5 ?_;refine lb h5 ?_;refine fill [iV k.n.a,iV k.n.b] rfl ?_;refine new fun b6 w4 hb6 h6 hs4 hk4=>?_;have k14:=k13.tr hk4;have hlen4:((cj' x).take i).length = i:=by simp; omega
  refine (hO.kp k14).ap1 τok rfl rfl (by decide) ⟨k.n.a,k.n.b⟩ [iV k.n.a,iV k.n.b] ⟨rfl,hi2,hi3⟩ (bZ h6) (by rw [hlen4]; omega) (by rw [hlen4]; unfold maxLen; omega) fun v2 w5 hO5 hk5 _=>?_;refine i6 ?_;refine ⟨(i + 1,v2),by simp only; omega,rfl,⟨rfl,rfl,rfl,rfl,trivial⟩,by show i + 1 <= _; omega,?_,(hk1.tr k14).own hk5 (hO.kp k14)⟩;rw [al' hlv];exact hO5
 ·rw [List.take_of_length_le (by omega)] at hO
  obtain ⟨a,c2,rfl,hs⟩:=hO.den (by omega);exact ⟨a,c2,rfl,hs,hk1⟩
theorem kw' (hS:Sub C w) (hx:Ft Q N x) (h12:x.n.op = 12) (hv:TmV C x v) :
  CC 233 #[v] w (fun e w'=>∃ a c,e = .returned (.slice a (placesM x).length c) /\ Sl rInt (New w.heap.size w') a (placesM x) /\ Kp [] w w'):=by
 refine oF Tryz.func233 ?_;have hl:=br' hx.ok h12;have hlen:=hx.len;have hvv:=hv;obtain ⟨b,o,c,rfl,_,_,_,hc⟩:=hv.hd;have hpl:(placesM x).length = x.ks.length:=by simp [placesM]
 refine cO (args:=[_]) 27 [.tmp 2] τok Tryz.func233 ?_;refine ix 0 rfl (ag' _) ?_;refine ldC hS (by simpa using hc 2 _ rfl) ?_;refine lp τok (σ:=Nat × Value) (fun q=>[(0,.slice (some ⟨b,o,none⟩) (row x).length c),(3,q.2),(4,iV ((1 + (rows (x.ks.take q.1)).length:Nat):Int)),(8,iV x.n.b),(9,iV (q.1:Int))])
  (fun q w'=>q.1 <= x.ks.length /\ Own rInt 3 w.heap.size w' q.2 ((placesM x).take q.1) /\ Kp [] w w') (fun q=>x.ks.length - q.1) (0,.slice none 0 0) rfl ⟨rfl,rfl,rfl,rfl,rfl,trivial⟩ ⟨Nat.zero_le _,Own.nil _ _ (Nat.le_refl _),Kp.refl _ _⟩ ?_
 rintro ⟨i,v1⟩ w1 ⟨hi,hO,hk1⟩;simp only at hi hO;refine ac' (fun g=>?_) (fun g=>?_)
 ·have g:(i:Int) < x.n.b:=g
  obtain ⟨h,hh,_⟩:=af' (l:=x.ks) (k:=i) (by omega);obtain ⟨ty,bo,hhe,h13,_,hty,hbo,_,hat,e1,e2⟩:=fB' hx.ok h12 hh;have es:(rows (x.ks.take (i + 1))).length = (rows (x.ks.take i)).length + (1 + ((row ty).length + (row bo).length)):=by
   rw [al' hh,bm',List.length_append];rw [hhe];simp [rows,row];omega
  have hlt:=ai' hat;obtain ⟨b',o',c',hve,hi1,hi2,hi3,hcc⟩:=hvv.nd hat;injection hve with q1 q2 q3
  injection q1 with q1
  injection q1 with q4 q5 q6
  subst q4 q5 q3;refine ix (1 + (rows (x.ks.take i)).length) rfl hlt ?_;refine ldC (hS.tr hk1) (hcc 1 _ rfl) ?_;refine fill [iV h.n.a] rfl ?_;refine new fun b6 w2 hb6 h6 hs2 hk2=>?_;have hlen4:((placesM x).take i).length = i:=by simp; omega
  have hpv:(placesM x)[i]? = some h.n.a:=by simp [placesM,hh]
  refine (hO.kp hk2).ap1 τok rfl rfl (by decide) h.n.a [iV h.n.a] ⟨rfl,hi2⟩ (bZ h6) (by rw [hlen4]; omega) (by rw [hlen4]; unfold maxLen; omega) fun v2 w3 hO3 hk3 _=>?_;have k03:=(hk1.tr hk2).own hk3 (hO.kp hk2);refine i6 ?_;refine ab' (cA' (hS.tr k03) hvv hlen e1 hty (i:=((1 + (rows (x.ks.take i)).length:Nat):Int) + 1) (by simp; omega)) ?_;rintro e w4 ⟨rfl,hk4⟩;refine ab' (cA' (hS.tr (k03.tr hk4)) hvv hlen e2 hbo (by simp; omega)) ?_;rintro e w5 ⟨rfl,hk5⟩;refine i6 ?_;refine ⟨(i + 1,v2),by simp only; omega,rfl,⟨rfl,rfl,?_,rfl,rfl,trivial⟩,by show i + 1 <= _; omega,?_,(k03.tr hk4).tr hk5⟩
  ·show some (iV _) = some (iV ((1 + (rows (x.ks.take (i + 1))).length:Nat):Int))
   congr 3
   rw [es];simp;omega
  ·rw [al' hpv]
   exact (hO3.kp hk4).kp hk5
 ·have g:¬ (i:Int) < x.n.b:=g
  rw [List.take_of_length_le (by omega)] at hO;obtain ⟨a,c2,rfl,hs⟩:=hO.den (by omega);exact ⟨a,c2,rfl,hs,hk1⟩
end
def CmpC (C:Mem) (w:World) (bj:Nat) (B:BoT) (c:Ctx) (n er:Int):Prop:=∃ v1 v2 v3 v4,Bk w.heap bj [iV B.vars,v1,v2,iV B.nat,v3,v4,iV n,iV er] 252 /\ SV rOr C B.orders v1 /\ SV rEn C B.ents v2 /\ SV rPr C B.prims v3 /\ SV rBd C (c.map bdR) v4
section
variable {w w':World} {X Y:List Nat} {B:BoT} {cx:Ctx} {bj:Nat} {n er:Int}
theorem CmpC.mono {C D:Mem} (h:CmpC C w bj B cx n er) (hc:∀ b o v,C b o v -> D b o v):CmpC D w bj B cx n er:=by
 obtain ⟨v1,v2,v3,v4,h1,h2,h3,h4,h5⟩:=h;exact ⟨v1,v2,v3,v4,h1,h2.mono hc,h3.mono hc,h4.mono hc,h5.mono hc⟩
theorem CmpC.kp {C:Mem} (h:CmpC C w bj B cx n er) {Z:List Nat} (k:Kp Z w w') (hb:bj ∉ Z):CmpC C w' bj B cx n er:=by
 obtain ⟨v1,v2,v3,v4,h1,h2,h3,h4,h5⟩:=h;exact ⟨v1,v2,v3,v4,h1.kp k hb,h2,h3,h4,h5⟩
end
def mM' (B:BoT) (f g:Tr) (under:Bool):Bool:=decide (f.n.a = g.n.a) && (du' B.vars B.orders (cj' f) (cj' g) && (under || du' B.vars B.orders (cj' g) (cj' f)))
section
variable {C:Mem} {w:World} {Q:Nd -> Prop} {N:Int} {B:BoT} {cx:Ctx} {bj:Nat} {n er:Int}
theorem rz' (hS:Sub C w) (hJ:CmpC C w bj B cx n er) {f g:Tr} (hf:Ft Q N f) (hg:Ft Q N g) (f2:f.n.op = 2) (g2:g.n.op = 2) {vf vg:Value} (hvf:TmV C f vf) (hvg:TmV C g vg) (under:Bool) :
  CC 221 #[pt bj,vf,vg,.bool under] w (fun e w'=>e = .returned (.bool (mM' B f g under)) /\ Kp [] w w'):=by
 refine oF Tryz.func221 ?_;obtain ⟨v1,v2,v3,v4,hJb,hOr,_,_,_⟩:=hJ;obtain ⟨ao,co,rfl,hO1,hO2⟩:=hOr;obtain ⟨RES,hRES⟩:∃ r,mM' B f g under = r:=⟨_,rfl⟩
 rw [hRES];unfold mM' at hRES;have hvf':=hvf;have hvg':=hvg;obtain ⟨bf,of,cf,rfl,_,_,_,hcf⟩:=hvf.hd;obtain ⟨bg,og,cg,rfl,_,_,_,hcg⟩:=hvg.hd;refine cO (args:=[_,_,_,_]) 57 [.tmp 8] τok Tryz.func221 ?_;refine ab' (dU' hS hf f2 hvf') ?_;rintro e w1 ⟨al,cl,rfl,hl,hk1⟩;refine ab' (dU' (hS.tr hk1) hg g2 hvg') ?_;rintro e w2 ⟨am,cm,rfl,hm,hk2⟩;have k02:=hk1.tr hk2;have hl2:Sl rAt (New w.heap.size w2) al (cj' f):=hl.mono fun b o v h=>⟨h.1,h.2.kp hk2 (by simp)⟩
 refine oa' τok (fun w'=>Kp [] w2 w') (by kernel_rfl) (kQd w2) ?_;refine ix 0 rfl (ag' _) ?_;refine ldK (hS.tr k02 _ _ _ (by simpa using hcf 1 _ rfl)) ?_;refine ix 0 rfl (ag' _) ?_;refine ldK (hS.tr k02 _ _ _ (by simpa using hcg 1 _ rfl)) ?_;have hJ2:=hJb.kp k02 (by simp);have hu:∀ w',Kp [] w2 w' -> kl' w'.heap.size w'.heap ao B.orders /\ Atoms w'.heap.size w'.heap al (cj' f) /\ Atoms w'.heap.size w'.heap am (cj' g):=fun w' k =>
  ⟨Sl.ordV hO1 (hS.tr (k02.tr k)),Sl.atoms hl2 (Sub.tr (New.sub _ _) k),Sl.atoms hm (Sub.tr (New.sub _ _) k)⟩
 have fin:∀ {r:Bool} {w'},RES = r -> Kp [] w2 w' -> Ending.returned (Go.Wx.one [.bool r]) = .returned (.bool RES) /\ Kp [] w w':=fun h k=>⟨by rw [h]; rfl,k02.tr k⟩
 refine ac' (fun h1=>?_) (fun h1=>?_)
 ·have h1:f.n.a = g.n.a:=h1
  refine lk hJ2 ?_;refine lk hJ2 ?_;refine un' (v:=.bool (du' B.vars B.orders (cj' f) (cj' g))) (fun w' hk'=>by
   obtain ⟨q1,q2,q3⟩:=hu w' hk';exact iU' B.vars B.orders (cj' f) (cj' g) ao al am co cl cm w' q1 q2 q3) ?_
  rw [decide_eq_true h1,Bool.true_and] at hRES;refine br (fun h2=>?_) (fun h2=>?_)
  ·rw [h2,Bool.true_and] at hRES
   refine br (fun h3=>?_) (fun h3=>?_)
   ·rw [h3,Bool.true_or] at hRES
    intro w3 hk3;exact fin hRES.symm hk3
   ·rw [h3,Bool.false_or] at hRES
    refine lk hJ2 ?_;refine lk hJ2 ?_;refine un' (v:=.bool (du' B.vars B.orders (cj' g) (cj' f))) (fun w' hk'=>by
     obtain ⟨q1,q2,q3⟩:=hu w' hk';exact iU' B.vars B.orders (cj' g) (cj' f) ao am al co cm cl w' q1 q3 q2) ?_
    intro w3 hk3;exact fin hRES.symm hk3
  ·rw [h2,Bool.false_and] at hRES
   intro w3 hk3;exact fin hRES.symm hk3
 ·have h1:¬ f.n.a = g.n.a:=h1
  rw [decide_eq_false h1,Bool.false_and] at hRES;intro w3 hk3;exact fin hRES.symm hk3
end
abbrev RcC:=Ctx -> Tr -> Tr -> Bool -> Nat -> Except Int (Bool × Nat)
def fU' (m:Except Int (Bool × Nat)) (k:Nat -> Except Int (Bool × Nat)):Except Int (Bool × Nat):=match m with
 | .error e=>.error e
 | .ok q=>if q.1 = true then k q.2 else .ok (false,q.2)
def mN' (rc:RcC) (cx:Ctx):List Tr -> List Tr -> Nat -> Except Int (Bool × Nat)
 | x :: r,y :: s,n=>fU' (rc cx x y false n) (mN' rc cx r s)
 | _,_,n=>.ok (true,n)
def aQ' (f:Tr):Ctx:=(List.range f.n.b.toNat).map fun i=>(au' (kidD f (2 * i)) i 0,none)
def lF' (rc:RcC) (cx cx':Ctx):List Tr -> List Tr -> Nat -> Except Int (Bool × Nat)
 | x :: a :: r,y :: b :: s,n=>fU' (rc cx x y false n) fun n=>fU' (rc cx' a b false n) (lF' rc cx cx' r s)
 | _,_,n=>.ok (true,n)
def ih' (rc:RcC) (cx:Ctx) (f g:Tr) (n:Nat):Except Int (Bool × Nat) :=
 if placesM f = placesM g then lF' rc cx (cx ++ aQ' f) (kidsT f) (kidsT g) n else .ok (false,n)
def eR' (B:BoT) (rc:RcC) (cx:Ctx) (f g:Tr) (under:Bool) (n:Nat):Except Int (Bool × Nat) :=
 if f.n.op = 2 then .ok (mM' B f g under,n)
 else if f.n.op = 4 then fU' (rc cx (kidD f 0) (kidD g 0) false n) (rc (cx ++ [(kidD f 0,none)]) (kidD f 1) (kidD g 1) under)
 else if f.n.op = 5 then fU' (rc cx (kidD f 0) (kidD g 0) false n) (rc (cx ++ [(kidD f 0,none)]) (kidD f 1) (kidD g 1) false)
 else if f.n.op = 12 then (if f.n = g.n then ih' rc cx f g n else .ok (false,n))
 else if f.n = g.n then mN' rc cx (kidsT f) (kidsT g) n else .ok (false,n)
def pt' (B:BoT) (rc:RcC) (cx:Ctx) (x y:Tr) (under:Bool) (n:Nat):Except Int (Bool × Nat) :=
 if (headT x).n.op ≠ (headT y).n.op \/ (argsT x).length ≠ (argsT y).length then .ok (false,n)
 else fU' (eR' B rc cx (headT x) (headT y) under n) (mN' rc cx (argsT x) (argsT y))
def pu' (B:BoT):Nat -> RcC
 | 0,_,_,_,_,_=>.error 10
 | g + 1,cx,x,y,u,n=>if n = 0 then .error 10 else if row x = row y then .ok (true,n - 1) else if 256 < cx.length then .error 5
  else match bt' B cx x ((n - 1:Nat):Int) with
   | .error e=>.error e
   | .ok p=>match bt' B cx y (p.2:Int) with
    | .error e=>.error e
    | .ok q=>pt' B (pu' B g) cx p.1 q.1 u q.2
section
variable {B:BoT} {cx:Ctx}
theorem lG':∀ (g:Nat) (x:Tr) (room:Int) (n:Nat) (q:Tr × Nat),bG' B cx g x room n = .ok q -> q.2 <= n
 | 0,x,room,n,q,h=>by cases h
 | g + 1,x,room,n,q,h=>by
  simp only [bG'] at h;have hpost:∀ p,ho' B cx (bG' B cx g) room p = .ok q -> q.2 <= p.2:=fun p h=>by
   unfold ho' at h;split at h
   ·split at h
    ·cases h
    ·cases ho:ny' B cx p.1 with
     | error e=>rw [ho] at h; cases h
     | ok z =>
      rw [ho] at h;simp only at h;split at h
      ·cases h
      ·have:=lG' g _ _ _ _ h
       omega
   ·injection h with h
    subst h;exact Nat.le_refl _
  cases hp:qy' (bG' B cx g) x room n with
  | error e=>rw [hp] at h; cases h
  | ok p =>
   rw [hp] at h;have h1:=hpost p h;unfold qy' at hp;split at hp
   ·injection hp with hp
    subst hp;exact h1
   ·split at hp
    ·cases hp
    ·rename_i he
     injection hp with hp
     subst hp;have:=lG' g _ _ _ _ he;exact Nat.le_trans h1 this
theorem ii' {x:Tr} {n:Nat} {q:Tr × Nat} (h:bt' B cx x (n:Int) = .ok q):q.2 <= n:=by
 have:=lG' _ _ _ _ _ h;unfold ax' at this;omega
def sr' (rc:RcC):Prop:=∀ cx x y u n q,rc cx x y u n = .ok q -> q.2 <= n
theorem fo' {m:Except Int (Bool × Nat)} {k:Nat -> Except Int (Bool × Nat)} {n:Nat} {q:Bool × Nat} (hm:∀ q,m = .ok q -> q.2 <= n) (hk:∀ i q,k i = .ok q -> q.2 <= i) (h:fU' m k = .ok q):q.2 <= n:=by
 unfold fU' at h;split at h
 ·cases h
 ·rename_i p
  have h1:=hm p rfl;split at h
  ·exact Nat.le_trans (hk _ _ h) h1
  ·injection h with h
   subst h;exact h1
theorem pv' {rc:RcC} (hr:sr' rc):∀ (xs ys:List Tr) (n:Nat) (q:Bool × Nat),mN' rc cx xs ys n = .ok q -> q.2 <= n
 | x :: r,y :: s,n,q,h=>fo' (fun q=>hr _ _ _ _ _ q) (fun i q=>pv' hr r s i q) h
 | [],ys,n,q,h=>by simp only [mN',Except.ok.injEq] at h; subst h; exact Nat.le_refl _
 | x :: r,[],n,q,h=>by simp only [mN',Except.ok.injEq] at h; subst h; exact Nat.le_refl _
theorem pw' {rc:RcC} (hr:sr' rc) {cx':Ctx}:∀ (xs ys:List Tr) (n:Nat) (q:Bool × Nat),lF' rc cx cx' xs ys n = .ok q -> q.2 <= n
 | x :: a :: r,y :: b :: s,n,q,h=>fo' (fun q=>hr _ _ _ _ _ q) (fun i q h=>fo' (fun q=>hr _ _ _ _ _ q) (fun i q=>pw' hr r s i q) h) h
 | [],ys,n,q,h=>by simp only [lF',Except.ok.injEq] at h; subst h; exact Nat.le_refl _
 | [x],ys,n,q,h=>by simp only [lF',Except.ok.injEq] at h; subst h; exact Nat.le_refl _
 | x :: a :: r,[],n,q,h=>by simp only [lF',Except.ok.injEq] at h; subst h; exact Nat.le_refl _
 | x :: a :: r,[y],n,q,h=>by simp only [lF',Except.ok.injEq] at h; subst h; exact Nat.le_refl _
theorem mO' {rc:RcC} (hr:sr' rc) {f g:Tr} {u:Bool} {n:Nat} {q:Bool × Nat} (h:eR' B rc cx f g u n = .ok q):q.2 <= n:=by
 unfold eR' at h;split at h
 ·injection h with h; subst h; exact Nat.le_refl _
 split at h
 ·exact fo' (fun q=>hr _ _ _ _ _ q) (fun i q=>hr _ _ _ _ _ q) h
 split at h
 ·exact fo' (fun q=>hr _ _ _ _ _ q) (fun i q=>hr _ _ _ _ _ q) h
 split at h
 ·split at h
  ·unfold ih' at h
   split at h
   ·exact pw' hr _ _ _ _ h
   ·injection h with h; subst h; exact Nat.le_refl _
  ·injection h with h; subst h; exact Nat.le_refl _
 split at h
 ·exact pv' hr _ _ _ _ h
 ·injection h with h; subst h; exact Nat.le_refl _
theorem tv' {rc:RcC} (hr:sr' rc) {f g:Tr} {u:Bool} {n:Nat} {q:Bool × Nat} (h:pt' B rc cx f g u n = .ok q):q.2 <= n:=by
 unfold pt' at h;split at h
 ·injection h with h; subst h; exact Nat.le_refl _
 ·exact fo' (fun q=>mO' hr) (fun i q=>pv' hr _ _ _ _) h
theorem kx' (B:BoT):∀ g,sr' (pu' B g)
 | 0,cx,x,y,u,n,q,h=>by cases h
 | g + 1,cx,x,y,u,n,q,h=>by
  simp only [pu'] at h;split at h
  ·cases h
  split at h
  ·injection h with h; subst h; simp
  split at h
  ·cases h
  split at h
  ·cases h
  rename_i p hp;split at h
  ·cases h
  rename_i p' hp';have h1:=ii' hp;have h2:=ii' hp';have h3:=tv' (kx' B g) h;omega
end
theorem ldI {X:List Nat} {w:World} {bj b o:Nat} {v:Value} {k:Value -> Prop} (hbj:bj ∈ X) (h:Im X w b o v) (hk:k v):EvLdQ (fun z=>Kp [bj] w z) ⟨b,o,none⟩ k :=
 ldQ (fun z hz=>(h.kp hz fun y hy _=>by
  obtain rfl:y = bj:=by simpa using hy
  exact hbj).1) hk
section
variable {B:BoT} {cx:Ctx} {X:List Nat} {w:World} {bj:Nat} {x:Tr} {n:Nat} {v:Value}
theorem ij' (hB:GoodB B) (hcx:CxOk B cx) (hcl:cx.length <= 90000) (hX:XL X w) (hbj:bj ∈ X) (hJ:CmpC (Im X w) w bj B cx n 0) (hx:Ft (QB B) (cx.length:Int) x) (hv:TmV (Im X w) x v) :
  CC 203 #[pt bj,v] w (fun e w'=>(match bt' B cx x (n:Int) with
   | .ok q=>∃ u,e = .returned (.tuple #[u,.bool true]) /\ TmV (Im X w') q.1 u /\ CmpC (Im X w') w' bj B cx q.2 0
   | .error er=>e = .returned (.tuple #[.slice none 0 0,.bool false]) /\ er ≠ 0 /\ CmpC (Im X w') w' bj B cx 0 er) /\ Kp [bj] w w'):=by
 refine oF Tryz.func203 ?_;have hJJ:=hJ;obtain ⟨v1,v2,v3,v4,hJb,hO,hE,hP,hC⟩:=hJ;have hvv:=hv;obtain ⟨av,cv,rfl,_,_⟩:=hvv;have hCC:=hC;obtain ⟨ac,cc,rfl,_,_⟩:=hCC;refine cO (args:=[_,_]) 38 [.tmp 4,.tmp 5] τok Tryz.func203 ?_;refine am' τok (fun z=>Kp [] w z) ?_;refine rV τok (rg 0 13) 8 (mR 21 13) (kQd w) ?_;refine aO' [iV B.vars,v1,v2,iV B.nat,v3] rfl (fun j u hj=>by
  refine hJb.cl ?_;rw [Nat.zero_add]
  match j,hj with
  | 0,hj=>exact hj
  | 1,hj=>exact hj
  | 2,hj=>exact hj
  | 3,hj=>exact hj
  | 4,hj=>exact hj
  | j + 5,hj=>cases hj) ?_
 refine lk hJb ?_;refine lk hJb ?_;refine nV τok 13 7 (mR 21 14) ?_;refine ab' (mI' (w:=(dr w)) (fuel:=(n:Int)) hB hcx hcl hX hx ⟨v1,v2,v3,rfl,hO,hE,hP⟩ hC hv) ?_;rintro e w1 ⟨he,hk1⟩;have hk1:Kp [] w w1:=hk1.rd;have tr1:∀ b o v,Im X w b o v -> Im X w1 b o v:=fun b o v h=>h.tr hk1;cases hr:bt' B cx x (n:Int) with
 | ok q =>
  rw [hr] at he;obtain ⟨u,rfl,hu⟩:=he;refine ⟨.inl hk1,?_⟩;have hu':=hu;obtain ⟨au,cu,rfl,_,_⟩:=hu';refine rV τok (rg 14 7) 0 (mR 21 21) hk1 ?_;refine dV ?_;refine st (hJb.kp hk1 (by simp)) (by simp) rfl fun w2 h2 hs2 hk2=>?_;refine st h2 (by simp) rfl fun w3 h3 hs3 hk3=>?_;have k13:Kp [bj] w1 w3:=hk2.tq hk3;have tr3:∀ b o v,Im X w1 b o v -> Im X w3 b o v:=fun b o v h=>h.kp k13 fun y hy _=>by
   obtain rfl:y = bj:=by simpa using hy
   exact hbj
  have h3:Bk w3.heap bj [iV B.vars,v1,v2,iV B.nat,v3,.slice ac (cx.map bdR).length cc,iV (q.2:Int),iV 0] 252:=h3;exact ⟨⟨_,rfl,hu.mono tr3,v1,v2,v3,_,h3,hO.mono fun _ _ _ h=>tr3 _ _ _ (tr1 _ _ _ h),hE.mono fun _ _ _ h=>tr3 _ _ _ (tr1 _ _ _ h),hP.mono fun _ _ _ h=>tr3 _ _ _ (tr1 _ _ _ h),hC.mono fun _ _ _ h=>tr3 _ _ _ (tr1 _ _ _ h)⟩,(hk1.weak (by simp)).tq k13⟩
 | error er =>
  rw [hr] at he;simp only at he;subst he;refine ⟨.inl hk1,?_⟩;have her:=gz' _ _ _ _ _ hr;refine rV τok (rg 14 7) 0 (mR 21 21) hk1 ?_;refine dV ?_;refine st (hJb.kp hk1 (by simp)) (by simp) rfl fun w2 h2 hs2 hk2=>?_;refine st h2 (by simp) rfl fun w3 h3 hs3 hk3=>?_;have k13:Kp [bj] w1 w3:=hk2.tq hk3;have tr3:∀ b o v,Im X w1 b o v -> Im X w3 b o v:=fun b o v h=>h.kp k13 fun y hy _=>by
   obtain rfl:y = bj:=by simpa using hy
   exact hbj
  have h3:Bk w3.heap bj [iV B.vars,v1,v2,iV B.nat,v3,.slice ac (cx.map bdR).length cc,iV 0,iV er] 252:=h3;refine ⟨⟨?_,by omega,v1,v2,v3,_,h3,hO.mono fun _ _ _ h=>tr3 _ _ _ (tr1 _ _ _ h),hE.mono fun _ _ _ h=>tr3 _ _ _ (tr1 _ _ _ h),hP.mono fun _ _ _ h=>tr3 _ _ _ (tr1 _ _ _ h),hC.mono fun _ _ _ h=>tr3 _ _ _ (tr1 _ _ _ h)⟩,(hk1.weak (by simp)).tq k13⟩;show Ending.returned (.tuple #[_,.bool (decide (er = 0))]) = _;rw [decide_eq_false (by omega)]
end
section
variable {α:Type} {R:Rd α} {C:Mem} {w w':World} {l m:List α}
theorem px' {e:Nat} {v:Value} {css:List (List Value)} (h:w'.ownsRow w.heap.size e R.sz v l.length css.flatten) (hd:All2 (R.den C) css l) (hl:l.length <= 1099511627776):SV R (Cn C w w') l v:=by
 have hlen:=hd.length;have hk:∀ cs ∈ css,cs.length = R.sz:=by
  intro cs hcs;obtain ⟨i,hi⟩:=List.getElem?_of_mem hcs;have hil:=ai' hi;obtain ⟨cs',h4,h5⟩:=hd.get (i:=i) (a:=l[i]'(by omega)) (by simp);rw [hi] at h4;obtain rfl:=Option.some.inj h4;exact R.len h5
 rcases h.2 with ⟨rfl,h0⟩ | ⟨g,cap,cur,rfl,hb,hg,hn,hm,hc,ht⟩
 ·have:l = []:=List.length_eq_zero_iff.1 h0
  subst this;exact SV.nil _ _
 ·refine ⟨some ⟨g,0,none⟩,cap,rfl,⟨hl,.inr ⟨g,0,rfl,fun i x hx=>?_⟩⟩,hn⟩
  obtain ⟨cs,h4,h5⟩:=hd.get hx;refine ⟨cs,R.mono (fun b o u hu=>.inl hu) h5,fun j u hu=>.inr ⟨hb,cur,e,hg,?_⟩⟩;have:=ez' css hk i j cs u h4 hu;rw [<- ht,List.getElem?_take] at this;split at this
  ·rw [Nat.zero_add]; simpa using this
  ·cases this
theorem gE' {css:List (List Value)} (hd:All2 (R.den C) css l):css.flatten.length = l.length * R.sz /\ ∀ u ∈ css.flatten,u.oneCell' = true:=by
 have hlen:=hd.length;have each:∀ cs ∈ css,∃ x,R.den C cs x:=by
  intro cs hcs;obtain ⟨i,hi⟩:=List.getElem?_of_mem hcs;have hil:=ai' hi;obtain ⟨cs',h4,h5⟩:=hd.get (i:=i) (a:=l[i]'(by omega)) (by simp);rw [hi] at h4;obtain rfl:=Option.some.inj h4;exact ⟨_,h5⟩
 refine ⟨by rw [iC' css fun cs hcs=>R.len (each cs hcs).choose_spec,hlen],fun u hu=>?_⟩;obtain ⟨cs,hcs,hu⟩:=List.mem_flatten.1 hu;exact R.one (each cs hcs).choose_spec u hu
theorem ik' {css:List (List Value)} (hd:All2 (R.den C) css l) {b o:Nat} (hpos:0 < R.sz) (h:∀ i x j u,css[i]? = some x -> x[j]? = some u -> C b (o + i * R.sz + j) u) (hS:Sub C w):∀ j u,css.flatten[j]? = some u -> w.cell? ⟨b,o + j,none⟩ = some u:=by
 intro j u hj;have hlen:=hd.length;have hfl:=(gE' hd).1;have hjl:=ai' hj;have hk:∀ cs ∈ css,cs.length = R.sz:=by
  intro cs hcs;obtain ⟨i,hi⟩:=List.getElem?_of_mem hcs;have hil:=ai' hi;obtain ⟨cs',h4,h5⟩:=hd.get (i:=i) (a:=l[i]'(by omega)) (by simp);rw [hi] at h4;obtain rfl:=Option.some.inj h4;exact R.len h5
 have hdm:j / R.sz * R.sz + j % R.sz = j:=by rw [Nat.mul_comm]; exact Nat.div_add_mod j R.sz
 have hi:j / R.sz < css.length:=by
  rw [Nat.div_lt_iff_lt_mul hpos,hlen,<- hfl];exact hjl
 obtain ⟨cs,hcs,_⟩:=af' hi;have hm:j % R.sz < cs.length:=by rw [hk cs (List.mem_of_getElem? hcs)]; exact Nat.mod_lt _ hpos
 obtain ⟨u',hu',_⟩:=af' hm;have:=ez' css hk (j / R.sz) (j % R.sz) cs u' hcs hu';rw [hdm,hj] at this;obtain rfl:=Option.some.inj this;have hc:=h _ _ _ _ hcs hu';rw [Nat.add_assoc,hdm] at hc;exact (hS _ _ _ hc).cell
theorem py' {D:Mem} (hden:∀ cs x,R.den C cs x -> R.den D cs x) {P:Program} {τ:Tau} (hτ:aA' P τ) {T e bs:Nat} (hs:Go.Wx.look τ.slcs T = some (e,R.sz,bs)) {z:List Value} (hz:τ.zero e = some z) (hpos:0 < R.sz) {k:Value -> World -> Prop} {c ty:Nat} {a a':Option Addr}
  (hS:Sub C w) (hl:Sl R C a l) (hm:Sl R C a' m) (h0:0 < m.length) (hbytes:(l.length + m.length) * bs <= 140737488355328) (h63:l.length + m.length <= maxLen) (hlm:l.length + m.length <= 1099511627776)
  (hk:∀ v' w',SV R (Cn D w w') (l ++ m) v' -> Kp [] w w' -> k v' w'):EvRun P (Builtin.append_ #[T,T] ty #[.slice a l.length l.length,.slice a' m.length c]) w k:=by
 obtain ⟨hu,inf,hinf,hsize,hbs⟩:=hτ.slcs T e R.sz bs hs;obtain ⟨inf',v0,hinf',hv,hcz,hsz'⟩:=dg' hτ hz;have:inf' = inf:=by rw [hinf'] at hinf; simpa using hinf
 subst this;have hzs:v0.cells.size = R.sz:=by rw [hcz,<- hsize,hsz']; simp
 obtain ⟨b',o',rfl,hc'⟩:=hm.at (i:=0) h0;obtain ⟨css',h3',h4'⟩:=fZ' m o' hc';obtain ⟨f1',f2'⟩:=gE' h3';have f3':=ik' h3' hpos h4' hS;have hadd:∀ (b o j:Nat),(⟨b,o,none⟩:Addr).add j = ⟨b,o + j,none⟩:=fun b o j=>eg' b o j;have hll:(l ++ m).length = l.length + m.length:=by simp
 cases a with
 | none =>
  obtain rfl:=hl.none_nil;have hO:Own R e w.heap.size w (.slice none 0 0) ([]:List α):=Own.nil _ _ (Nat.le_refl _);refine ap hτ hs hz hpos w.heap.size (v:=.slice none 0 0) (n:=0) (xs:=[]) ⟨by simp,.inl ⟨rfl,rfl⟩⟩ css'.flatten f1' (.inr ⟨b',o',rfl,fun j u hj=>Cl.of (f3' j u hj)⟩) f2' (by simpa using hbytes) (by simpa using h63) (Nat.le_refl _) fun v' w' ho hk'=>?_;refine hk v' w' ?_ (by simpa [Value.ownBlock] using hk');rw [List.nil_append] at ho ⊢;exact px' (by simpa using ho) (h3'.mono hden) (by simp at hlm; omega)
 | some ad =>
  have key:∃ css:List (List Value),All2 (R.den C) css l /\ ∀ j u,css.flatten[j]? = some u -> w.cell? (ad.add j) = some u:=by
   rcases hl.2 with h0 | ⟨b,o,hab,h2⟩
   ·have:l = []:=List.length_eq_zero_iff.1 h0
    subst this;exact ⟨[],trivial,fun j u hj=>by simp at hj⟩
   ·obtain rfl:=Option.some.inj hab
    obtain ⟨css,h3,h4⟩:=fZ' l o h2;refine ⟨css,h3,fun j u hj=>?_⟩;rw [hadd];exact ik' h3 hpos h4 hS j u hj
  obtain ⟨css,h3,h4⟩:=key;obtain ⟨f1,f2⟩:=gE' h3;obtain ⟨v',w',hr,ho,hg⟩:=run_append_arg_grows (P:=P) w T ty e inf' v0 R.sz bs hu hinf hv hsize hbs hzs hpos ad l.length l.length css.flatten f1 h4 ⟨b',o',none⟩ m.length c css'.flatten f1' (fun j u hj=>by rw [hadd]; exact f3' j u hj) (by omega) h63 hbytes;refine run hr (hk v' w' ?_ (by simpa using fY' hg));rw [<- List.flatten_append,<- hll] at ho;exact px' ho ((h3.append h3').mono hden) (by rw [hll]; exact hlm)
theorem mP' {P:Program} {τ:Tau} (hτ:aA' P τ) {T e bs:Nat} (hs:Go.Wx.look τ.slcs T = some (e,R.sz,bs)) {z:List Value} (hz:τ.zero e = some z) (hpos:0 < R.sz) {k:Value -> World -> Prop} {c ty:Nat} {a a':Option Addr}
  (hS:Sub C w) (hl:Sl R C a l) (hm:Sl R C a' m) (h0:0 < m.length) (hbytes:(l.length + m.length) * bs <= 140737488355328) (h63:l.length + m.length <= maxLen) (hlm:l.length + m.length <= 1099511627776)
  (hk:∀ v' w',SV R (Cn C w w') (l ++ m) v' -> Kp [] w w' -> k v' w'):EvRun P (Builtin.append_ #[T,T] ty #[.slice a l.length l.length,.slice a' m.length c]) w k :=
 py' (fun _ _ h=>h) hτ hs hz hpos hS hl hm h0 hbytes h63 hlm hk
end
def uj' (X:List Nat) (w:World) (bj:Nat) (B:BoT) (cx:Ctx) (r:Except Int (Bool × Nat)) (e:Ending) (w':World):Prop :=
 (match r with
  | .ok q=>e = .returned (.bool q.1) /\ CmpC (Im X w') w' bj B cx q.2 0
  | .error er=>e = .returned (.bool false) /\ er ≠ 0 /\ ∃ m:Int,CmpC (Im X w') w' bj B cx m er) /\ Kp [bj] w w'
def pz' (B:BoT) (g:Nat) (rc:RcC):Prop:=∀ (X:List Nat) (w:World) (bj:Nat) (cx:Ctx) (x y:Tr) (u:Bool) (n:Nat) (vx vy:Value),(XL X w) -> bj ∈ X -> CxOk B cx -> cx.length <= 260 -> CmpC (Im X w) w bj B cx n 0 ->
 Ft (QB B) (cx.length:Int) x -> Ft (QB B) (cx.length:Int) y -> n <= g -> n <= 100000 -> TmV (Im X w) x vx -> TmV (Im X w) y vy ->
 CC 195 #[pt bj,vx,vy,.bool u] w (uj' X w bj B cx (rc cx x y u n))
theorem Im.kb {X:List Nat} {w w':World} {bj:Nat} (k:Kp [bj] w w') (hbj:bj ∈ X):∀ b o v,Im X w b o v -> Im X w' b o v:=fun b o v h=>h.kp k fun y hy _=>by
 obtain rfl:y = bj:=by simpa using hy
 exact hbj
section
variable {B:BoT} {g:Nat} {rc:RcC} {cx:Ctx} {X:List Nat} {w:World} {bj:Nat} {n:Nat}
theorem ss' (hrc:pz' B g rc) (hle:sr' rc) (hX:XL X w) (hbj:bj ∈ X) (hcx:CxOk B cx) (hcl:cx.length <= 260) (hJ:CmpC (Im X w) w bj B cx n 0) (hn:n <= g) (hn1:n <= 100000) {xs ys:List Tr} (hxs:∀ x ∈ xs,Ft (QB B) (cx.length:Int) x) (hys:∀ x ∈ ys,Ft (QB B) (cx.length:Int) x) (hl:xs.length = ys.length) (hl1:xs.length <= 100000)
  {vx vy:Value} (hvx:TmsV (Im X w) xs vx) (hvy:TmsV (Im X w) ys vy) :
  CC 205 #[pt bj,vx,vy] w (uj' X w bj B cx (mN' rc cx xs ys n)):=by
 refine oF Tryz.func205 ?_;obtain ⟨RES,hRES⟩:∃ r,mN' rc cx xs ys n = r:=⟨_,rfl⟩
 rw [hRES];have hvx':=hvx;have hvy':=hvy;obtain ⟨ax,cx',rfl,_,_⟩:=hvx;obtain ⟨ay,cy,rfl,_,_⟩:=hvy;refine cO (args:=[_,_,_]) 25 [.tmp 6] τok Tryz.func205 ?_;refine lp τok (σ:=Nat × Nat) (fun q=>[(0,pt bj),(1,.slice ax xs.length cx'),(2,.slice ay ys.length cy),(9,iV (xs.length:Int)),(10,iV (q.1:Int))])
  (fun q w'=>q.1 <= xs.length /\ q.2 <= n /\ CmpC (Im X w') w' bj B cx q.2 0 /\ Kp [bj] w w' /\ mN' rc cx (xs.drop q.1) (ys.drop q.1) q.2 = RES) (fun q=>xs.length - q.1) (0,n) rfl
  ⟨rfl,rfl,rfl,rfl,rfl,trivial⟩ ⟨Nat.zero_le _,Nat.le_refl _,hJ,Kp.refl _ _,hRES⟩ ?_
 rintro ⟨i,m⟩ w1 ⟨hi,hm,hJ1,hk1,hres⟩;simp only at hi hm hJ1 hres;refine ac' (fun h=>?_) (fun h=>?_)
 ·have h:(i:Int) < xs.length:=h
  obtain ⟨x,hx,hd⟩:=af' (l:=xs) (k:=i) (by omega);obtain ⟨y,hy,hd'⟩:=af' (l:=ys) (k:=i) (by omega);rw [hd,hd'] at hres;simp only [mN'] at hres;have tr1:=Im.kb hk1 hbj;obtain ⟨bx,ox,c1,e1,z,hz,hzT⟩:=(hvx'.mono tr1).get hx;obtain ⟨by_,oy,c2,e2,z',hz',hzT'⟩:=(hvy'.mono tr1).get hy;injection e1 with q1 q2 q3
  injection e2 with q4 q5 q6
  subst q1 q3 q4 q6;have hX1:=xU hX hk1;refine am' τok (fun z=>Kp [bj] w1 z) ?_;refine rV τok (rg 0 9) 2 (mR 11 9) ((Kp.refl [bj] w1).dr _) ?_;refine ix i rfl (by omega) ?_;refine ldI hbj hz ?_;refine ix i rfl (by omega) ?_;refine ldI hbj hz' ?_;refine nV τok 9 1 (mR 11 10) ?_;refine ab' (hrc X (dr w1) bj cx x y false m z z' hX1 hbj hcx hcl hJ1 (hxs x (List.mem_of_getElem? hx)) (hys y (List.mem_of_getElem? hy)) (by omega) (by omega) hzT hzT') ?_;rintro e w2 ⟨he,hk2⟩;have hk2:Kp [bj] w1 w2:=hk2.rd;have k02:Kp [bj] w w2:=hk1.tq hk2;cases hr:rc cx x y false m with
  | error er =>
   rw [hr] at he hres;obtain ⟨rfl,her,j,hJ2⟩:=he;refine ⟨.inl hk2,?_⟩;refine rV τok [10] 0 (mR 11 11) hk2 ?_;refine dV ?_;simp only [fU'] at hres;subst hres;exact ⟨⟨rfl,her,j,hJ2⟩,k02⟩
  | ok q =>
   obtain ⟨b,m2⟩:=q;rw [hr] at he hres;obtain ⟨rfl,hJ2⟩:=he;have hm2:=hle _ _ _ _ _ _ hr;simp only at hm2 hJ2;refine ⟨.inl hk2,?_⟩;refine rV τok [10] 0 (mR 11 11) hk2 ?_;refine dV ?_;cases b with
   | false =>
    simp only [fU'] at hres;rw [if_neg (by decide)] at hres;subst hres;exact ⟨⟨rfl,hJ2⟩,k02⟩
   | true =>
    simp only [fU',if_true] at hres;refine i6 ?_;exact ⟨(i + 1,m2),by simp only; omega,rfl,⟨rfl,rfl,rfl,rfl,rfl,trivial⟩,by show i + 1 <= _; omega,by simp only; omega,hJ2,k02,hres⟩
 ·have h:¬ (i:Int) < xs.length:=h
  rw [List.drop_eq_nil_of_le (by omega),List.drop_eq_nil_of_le (by omega)] at hres;simp only [mN'] at hres;subst hres;exact ⟨⟨rfl,hJ1⟩,hk1⟩
theorem nB' {w:World} {b5 b11 bj T5 T11 T:Nat} {v4:Value} {cs:List Value} (h5:Bk w.heap b5 [pt bj] T5) (h11:Bk w.heap b11 [v4] T11) (hj:Bk w.heap bj cs T) (hl:cs.length = 8) (hv:v4.oneCell' = true) :
  CallsD Tryz.prog 231 #[pt b11,pt b5] .returning w fun e u' w'=>(∃ v,e = .returned v) /\ u' = .returning /\ Bk w'.heap bj (cs.set 5 v4) T /\ Kp [bj] w w':=by
 refine callsD_of_wpS Tryz.func231 rfl fun c₀ cs' hu=>?_;refine wpS_of_wp (Go.wp_mono (aS' τok (n:=6) _ ⟨[(0,pt b11),(1,pt b5)],[]⟩ _ (fun e s w'=>e = .normal /\ s.d = [] /\ Bk w'.heap bj (cs.set 5 v4) T /\ Kp [bj] w w') ?_ _ (lq' (by simp) rfl ?_)) ?_)
 ·refine lb h5 ?_
  refine lb h11 ?_;refine st (b:=bj) (o:=5) hj (by omega) hv fun w2 h2 hs2 hk2=>?_;exact ⟨rfl,rfl,h2,hk2⟩
 ·intro q hq
  simp only [List.mem_cons,List.not_mem_nil,or_false] at hq;rcases hq with rfl | rfl <;> simp
 ·rintro e a' w' ⟨s,hF,rfl,hd,hk⟩
  exact qR' hF hd rfl hu ⟨⟨_,rfl⟩,rfl,hk⟩
theorem gF' (hrc:pz' B g rc) (hX:XL X w) (hbj:bj ∈ X) (hJ:CmpC (Im X w) w bj B cx n 0) (hn:n <= g) (hn1:n <= 100000) {mo:Ctx} (hmo:0 < mo.length) (hcx:CxOk B (cx ++ mo)) (hcl:(cx ++ mo).length <= 260) {x y:Tr} (hx:Ft (QB B) ((cx ++ mo).length:Int) x) (hy:Ft (QB B) ((cx ++ mo).length:Int) y)
  {vm vx vy:Value} (hvm:SV rBd (Im X w) (mo.map bdR) vm) (hvx:TmV (Im X w) x vx) (hvy:TmV (Im X w) y vy) (u:Bool) :
  CC 222 #[pt bj,vm,vx,vy,.bool u] w (uj' X w bj B cx (rc (cx ++ mo) x y u n)):=by
 refine oF Tryz.func222 ?_;obtain ⟨RES,hRES⟩:∃ r,rc (cx ++ mo) x y u n = r:=⟨_,rfl⟩
 rw [hRES];obtain ⟨v1,v2,v3,v4,hJb,hO,hE,hP,hC⟩:=hJ;have hbl:=hX bj hbj;have hmm:=hvm;have hCC:=hC;obtain ⟨am,cm,rfl,hm1,hm2⟩:=hmm;obtain ⟨ac,cc,rfl,hc1,hc2⟩:=hCC;obtain ⟨ax,cx1,rfl,_,_⟩:=id hvx;obtain ⟨ay,cy1,rfl,_,_⟩:=id hvy;refine dP' (args:=[_,_,_,_,_]) 29 [.tmp 10] τok Tryz.func222 rfl rfl rfl (Nat.le_of_ble_eq_true rfl) ?_;refine new fun b5 w1 hb5 h5 hs1 hk1=>?_;have h5:Bk w1.heap b5 [pt bj] 250:=h5;refine lb h5 ?_;refine lb (hJb.kp hk1 (by simp)) ?_;refine new fun b11 w2 hb11 h11 hs2 hk2=>?_;refine st (b:=b11) (o:=0) h11 (by simp) rfl fun w3 h11 hs3 hk3=>?_;have h11:Bk w3.heap b11 [.slice ac (cx.map bdR).length cc] 104:=h11;have k13:=hk2.newSt hb11 hk3;have k03:=hk1.tr k13;have h5:=h5.kp k13 (by simp);have hJ3:=hJb.kp k03 (by simp);have tr3:∀ b o v,Im X w b o v -> Im X w3 b o v:=fun b o v h=>h.tr k03;have hlm:(mo.map bdR).length <= 260:=by simp at hcl ⊢; omega
 have hlc:(cx.map bdR).length <= 260:=by simp at hcl ⊢; omega
 have hne5:b5 ≠ bj:=by omega
 have hne11:b11 ≠ bj:=by have:=hk1.size; omega
 have hlt5:w.heap.size <= b5:=by omega
 have hlt11:w.heap.size <= b11:=by have:=hk1.size; omega
 refine am' τok (fun z=>Kp [] w3 z) ?_;refine rV τok [0,1,3] 5 (mB 8 [2,4,5,6,7]) (kQd w3) ?_;refine lk h5 ?_;refine lk h11 ?_;refine nV τok 2 4 (mR 8 4) ?_;refine ab' (jc' (R:=rBd) rfl (C:=Im X w) (cx.map bdR) ac cc hc1 hc2) ?_;rintro e w4 ⟨⟨a4,rfl,hc4⟩,hk4⟩;have hk4:Kp [] w3 w4:=hk4.rd;refine ⟨.inl hk4,?_⟩;refine nV τok 4 3 (mR 8 5) ?_;refine mP' τok rfl rfl (by decide) (R:=rBd) (C:=Im X w) (Sub.tr (Im.sub X w) (k03.tr hk4)) hc4 hm1 (by simpa using hmo) (by omega) (by unfold maxLen; omega) (by omega) fun v' w5 hv' hk5=>?_;have k35:=hk4.tr hk5;refine ⟨.inl k35,?_⟩;rw [<- List.map_append] at hv';have hv1:=hv'.one;refine rV τok [5,6] 1 (mR 8 7) k35 ?_;refine nV τok 7 0 (mR 8 8) ?_;refine st (b:=bj) (o:=5) (hJ3.kp k35 (by simp)) (by simp) hv1 fun w6 h6 hs6 hk6=>?_;refine ⟨.inr (by kernel_rfl),?_⟩;refine dV ?_;have h6:Bk w6.heap bj [iV B.vars,v1,v2,iV B.nat,v3,v',iV (n:Int),iV 0] 252:=h6;have k05:=k03.tr k35;have k06:Kp [bj] w w6:=(k05.weak (by simp)).tq hk6;have hX4:XL X w4:=fun b hb=>Nat.lt_of_lt_of_le (hX b hb) (k03.tr hk4).size;have tr6:=Im.kb k06 hbj;have h56:=h5.kp k35 (by simp);have h56:=h56.kp hk6 (by simpa using hne5);have h116:=(h11.kp k35 (by simp)).kp hk6 (by simpa using hne11);refine lb h56 ?_;have hX6:=xU hX k06;have hJ6:CmpC (Im X w6) w6 bj B (cx ++ mo) n 0:=⟨v1,v2,v3,v',h6,hO.mono tr6,hE.mono tr6,hP.mono tr6,hv'.mono fun b o v h=>h.elim (tr6 b o v) fun h=>Im.kb hk6 hbj _ _ _ (Im.of_new hX4 h)⟩
 refine ab' (hrc X w6 bj (cx ++ mo) x y u n _ _ hX6 hbj hcx hcl hJ6 hx hy hn hn1 (hvx.mono tr6) (hvy.mono tr6)) ?_;rintro e w7 ⟨he,hk7⟩;have k07:Kp [bj] w w7:=k06.tq hk7;have h57:=h56.kp hk7 (by simpa using hne5);have h117:=h116.kp hk7 (by simpa using hne11);have fin:∀ {m er:Int},CmpC (Im X w7) w7 bj B (cx ++ mo) m er -> CallsD Tryz.prog 231 #[pt b11,pt b5] .returning w7 fun e u' w8=>(∃ v,e = .returned v) /\ u' = .returning /\ CmpC (Im X w8) w8 bj B cx m er /\ Kp [bj] w w8:=fun {m er} h=>by
  obtain ⟨u1,u2,u3,u4,hb,g1,g2,g3,g4⟩:=h;refine (nB' h57 h117 hb rfl rfl).mono ?_;rintro e u' w8 ⟨h1,h2,h3,h4⟩;have tr8:=Im.kb h4 hbj;have k08:Kp [bj] w w8:=k07.tq h4;exact ⟨h1,h2,⟨u1,u2,u3,_,h3,g1.mono tr8,g2.mono tr8,g3.mono tr8,hC.mono (Im.kb k08 hbj)⟩,k08⟩
 cases RES with
 | error er =>
  rw [hRES] at he;obtain ⟨rfl,her,m,hJ7⟩:=he;refine ⟨_,_,_,231,#[pt b11,pt b5],rfl,by simp,by simp [go_sem],(fin hJ7).mono ?_⟩;rintro e u' w8 ⟨h1,rfl,h3,h4⟩;exact ⟨h1,rfl,⟨rfl,her,m,h3⟩,h4⟩
 | ok q =>
  rw [hRES] at he;obtain ⟨rfl,hJ7⟩:=he;refine ⟨_,_,_,231,#[pt b11,pt b5],rfl,by simp,by simp [go_sem],(fin hJ7).mono ?_⟩;rintro e u' w8 ⟨h1,rfl,h3,h4⟩;exact ⟨h1,rfl,⟨rfl,h3⟩,h4⟩
end
end Go.Proofs.YtmpgcpemnjbgjaaGreat
