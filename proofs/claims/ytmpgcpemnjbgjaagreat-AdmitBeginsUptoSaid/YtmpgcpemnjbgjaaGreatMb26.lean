import Derived.Test.YtmpgcpemnjbgjaaGreatMb25
import Derived.Test.YtmpgcpemnjbgjaaGreatRows
import Derived.ProofKit
import Derived.OpenShut
import Derived.Deep.Slices
import Derived.JoinedCond
import Derived.Carry
set_option linter.unusedVariables false
set_option linter.unusedSimpArgs false
set_option maxRecDepth 100000
set_option maxHeartbeats 4000000
namespace Go.Proofs.YtmpgcpemnjbgjaaGreat
open Go.Wx Cd Tm Lv
def rC:List Nd:=[⟨10,0,0⟩]
theorem oB':rK' ⟨BN rI 0,rC,rI⟩ 9 = .ok ((),8) /\ me' ⟨BN rI 0,rC,rI⟩ 9 = 1:=⟨by kernel_rfl,by kernel_rfl⟩
theorem rL':rK' ⟨BN rI 0,rC,rT⟩ 9 = .error 13 /\ me' ⟨BN rI 0,rC,rT⟩ 9 = 1:=⟨by kernel_rfl,by kernel_rfl⟩
theorem tO':ne' (BN rI 0) 1 = .ok (ov' 0,xr' 0 (iE' (BN rI 0) 1)):=by kernel_rfl
theorem rM':(ov' 0).length = 5 /\ (xr' 0 (iE' (BN rI 0) 1)).length = 26:=⟨by kernel_rfl,by kernel_rfl⟩
section
variable {w:World}
theorem rN' (w:World) :
  CC 22 #[] w (fun e w'=>(∃ b3 b6 b7 b9 b11,e = .returned (.agg #[.int .i64 0,.slice none 0 0,.slice (some ⟨b11,0,none⟩) 1 1,.int .i64 0,.slice none 0 0]) /\ xs' w' b3 b7 b9 b11 (.slice (some ⟨b6,0,none⟩) 1 1) /\ Bk w'.heap b6 [.int .i64 9,.int .i64 0,.int .i64 0] 43 /\ w.heap.size <= b3 /\ b3 < b6 /\ b6 < b7 /\ b7 < b9 /\ b9 < b11) /\ Kp [] w w'):=by
 refine oF Tryz.func22 ?_;refine cO (args:=[]) 13 [.cell 0 26] τok Tryz.func22 ?_;refine new fun b0 w0 hb0 h0 hs0 hk0=>?_;refine fill [.int .i64 2,.int .i64 1,.int .i64 1,.int .i64 3,.int .i64 0,.int .i64 0] rfl ?_;refine new fun b3 w1 hb3 h3 hs1 hk1=>?_;refine fill [.int .i64 9,.int .i64 0,.int .i64 0] rfl ?_;refine new fun b6 w2 hb6 h6 hs2 hk2=>?_;refine fill [.slice (some ⟨b6,0,none⟩) 1 1] rfl ?_;refine new fun b7 w3 hb7 h7 hs3 hk3=>?_;refine fill [.slice none 0 0,.slice none 0 0,.slice (some ⟨b7,0,none⟩) 1 1,.slice none 0 0] rfl ?_;refine new fun b9 w4 hb9 h9 hs4 hk4=>?_;refine fill [.int .i64 1,.slice (some ⟨b3,0,none⟩) 2 2,.slice none 0 0,.slice none 0 0,.slice (some ⟨b9,0,none⟩) 2 2,.slice none 0 0,.slice none 0 0] rfl ?_;refine new fun b11 w5 hb11 h11 hs5 hk5=>?_;have k45:=hk5;have k35:=hk4.tr k45;have k25:=hk3.tr k35;have k15:=hk2.tr k25;have k05:=hk1.tr k15;refine stN (vs:=[.int .i64 0,.slice none 0 0,.slice (some ⟨b11,0,none⟩) 1 1,.int .i64 0,.slice none 0 0]) (h0.kp k05 (by simp)) rfl (by simp [Value.oneCell']) fun w6 h06 hs6 hk6=>?_;refine no' τok rfl [_,_,_,_,_] rfl (fun j v hj=>h06.cl hj) ?_;have z0:b0 = w.heap.size:=hb0;have z3:b3 = w0.heap.size:=hb3;have z6:b6 = w1.heap.size:=hb6;have z7:b7 = w2.heap.size:=hb7;have z9:b9 = w3.heap.size:=hb9;have z11:b11 = w4.heap.size:=hb11;refine ⟨⟨b3,b6,b7,b9,b11,rfl,⟨(h3.kp k15 (by simp)).kp hk6 (by simp; omega),(h7.kp k35 (by simp)).kp hk6 (by simp; omega),(h9.kp k45 (by simp)).kp hk6 (by simp; omega),h11.kp hk6 (by simp; omega)⟩,(h6.kp k25 (by simp)).kp hk6 (by simp; omega),by omega,by omega,by omega,by omega,by omega⟩,(hk0.tr k05).newSt hb0 hk6⟩
theorem rO' (w:World) :
  CC 18 #[] w (fun e w'=>e = .returned (.bool true) /\ Kp [] w w'):=by
 refine oF Tryz.func18 ?_;refine cO (args:=[]) 78 [.tmp 0] τok Tryz.func18 ?_;refine ab' (rN' w) ?_;rintro e w1 ⟨⟨b3,b6,b7,b9,b11,rfl,hN,h6,_⟩,hk1⟩;refine fill [.int .i64 10,.int .i64 0,.int .i64 0] rfl ?_;refine new fun bm w2 hbm hm hs2 hk2=>?_;refine fill [.int .i64 9,.int .i64 0,.int .i64 0] rfl ?_;refine new fun bt w3 hbt ht hs3 hk3=>?_;refine new fun bp w4 hbp hp hs4 hk4=>?_;refine stN (vs:=[.int .i64 0,.slice none 0 0,.slice (some ⟨b11,0,none⟩) 1 1,.int .i64 0,.slice none 0 0,.slice (some ⟨bm,0,none⟩) 1 1,.slice (some ⟨bt,0,none⟩) 1 1]) hp rfl (by simp [Value.oneCell']) fun w5 hp hs5 hk5=>?_;have k35:=hk4.newSt hbp hk5;have zp:bp = w3.heap.size:=hbp;have k25:=hk3.tr k35;have k15:=hk2.tr k25;have k05:=hk1.tr k15;obtain ⟨g3,g7,g9,g11⟩:=hN;have g3:=g3.kp k15 (by simp);have g7:=g7.kp k15 (by simp);have g9:=g9.kp k15 (by simp);have l11:=g11.lt;have g11:=g11.kp k15 (by simp);have h6:=h6.kp k15 (by simp);have hm:=hm.kp k25 (by simp);have ht:=ht.kp k35 (by simp);have hN5:xs' w5 b3 b7 b9 b11 (.slice (some ⟨b6,0,none⟩) 1 1):=⟨g3,g7,g9,g11⟩
 have hrI:SV rNd (Im [] w5) rI (.slice (some ⟨b6,0,none⟩) 1 1):=gy' h6 ⟨rfl,⟨by simp,by simp⟩,⟨by simp,by simp⟩,⟨by simp,by simp⟩⟩;have hrC:SV rNd (Im [] w5) rC (.slice (some ⟨bm,0,none⟩) 1 1):=gy' hm ⟨rfl,⟨by simp,by simp⟩,⟨by simp,by simp⟩,⟨by simp,by simp⟩⟩;have hrJ:SV rNd (Im [] w5) rI (.slice (some ⟨bt,0,none⟩) 1 1):=gy' ht ⟨rfl,⟨by simp,by simp⟩,⟨by simp,by simp⟩,⟨by simp,by simp⟩⟩;have hrT:=yc' g3;obtain ⟨_,_,_,e0,i1,i2,i3⟩:=wc' (nat:=0) hN5 hrI;injection e0 with e0
 have e0':=congrArg Array.toList e0;simp at e0';obtain ⟨_,rfl,rfl,_,rfl⟩:=e0';refine ldN [.int .i64 0,.slice none 0 0,.slice (some ⟨b11,0,none⟩) 1 1,.int .i64 0,.slice none 0 0,.slice (some ⟨bm,0,none⟩) 1 1,.slice (some ⟨bt,0,none⟩) 1 1] rfl (bZ hp) ?_;refine ab' (jD' (w:=w5) (C:=Im [] w5) (Im.sub [] w5) (fun _ _ _ h=>h.hold) (x:=⟨BN rI 0,rC,rI⟩) ⟨_,_,_,_,_,rfl,i1,i2,i3,hrC,hrJ⟩ 9) ?_;rintro e w6 ⟨he,hk6⟩;rw [oB'.1,oB'.2] at he;obtain rfl:=he;have hp:=hp.kp hk6 (by simp);have g11:=g11.kp hk6 (by simp);refine lb hp ?_;refine ix 0 rfl (by omega) ?_;refine lb g11 ?_;refine st (b:=bp) (o:=6) hp (by simp) rfl fun w7 hp hs7 hk7=>?_;have hp:Bk w7.heap bp [.int .i64 0,.slice none 0 0,.slice (some ⟨b11,0,none⟩) 1 1,.int .i64 0,.slice none 0 0,.slice (some ⟨bm,0,none⟩) 1 1,.slice (some ⟨b3,0,none⟩) 2 2] 53:=hp;have l3:=k35.size;have s1:=hk1.size;have s2:=hk2.size;have s3:=hk3.size;have k17:Kp [bp] w5 w7:=(hk6.weak (by simp)).tq hk7;have k07:Kp [] w w7:=k05.trans k17 fun y hy hl=>by
  simp at hy;omega
 have lb3:=g3.lt;refine ldN [.int .i64 0,.slice none 0 0,.slice (some ⟨b11,0,none⟩) 1 1,.int .i64 0,.slice none 0 0,.slice (some ⟨bm,0,none⟩) 1 1,.slice (some ⟨b3,0,none⟩) 2 2] rfl (bZ hp) ?_;have z11:b11 < w1.heap.size:=l11;have hN7:xs' w7 b3 b7 b9 b11 (.slice (some ⟨b6,0,none⟩) 1 1):=⟨g3.kp k17 (by simp; omega),g7.kp k17 (by simp; omega),g9.kp k17 (by simp; omega),(g11.kp hk7 (by simp; omega))⟩
 have hrI7:SV rNd (Im [] w7) rI (.slice (some ⟨b6,0,none⟩) 1 1):=gy' (h6.kp k17 (by simp; omega)) ⟨rfl,⟨by simp,by simp⟩,⟨by simp,by simp⟩,⟨by simp,by simp⟩⟩;have zm:bm = w1.heap.size:=hbm;have hrC7:SV rNd (Im [] w7) rC (.slice (some ⟨bm,0,none⟩) 1 1):=gy' (hm.kp k17 (by simp; omega)) ⟨rfl,⟨by simp,by simp⟩,⟨by simp,by simp⟩,⟨by simp,by simp⟩⟩;obtain ⟨_,_,_,e0,i1,i2,i3⟩:=wc' (nat:=0) hN7 hrI7;injection e0 with e0
 have e0':=congrArg Array.toList e0;simp at e0';obtain ⟨_,rfl,rfl,_,rfl⟩:=e0';refine ab' (jD' (w:=w7) (C:=Im [] w7) (Im.sub [] w7) (fun _ _ _ h=>h.hold) (x:=⟨BN rI 0,rC,rT⟩) ⟨_,_,_,_,_,rfl,i1,i2,i3,hrC7,yc' hN7.1⟩ 9) ?_;rintro e w8 ⟨he,hk8⟩;rw [rL'.1,rL'.2] at he;obtain ⟨rfl,_⟩:=he;refine ab' (rN' w8) ?_;rintro e w9 ⟨⟨c3,c6,c7,c9,c11,rfl,hN9,g6,_⟩,hk9⟩;have hrI9:SV rNd (Im [] w9) rI (.slice (some ⟨c6,0,none⟩) 1 1):=gy' g6 ⟨rfl,⟨by simp,by simp⟩,⟨by simp,by simp⟩,⟨by simp,by simp⟩⟩;refine ab' (rG' (w:=w9) (C:=Im [] w9) (Im.sub [] w9) (fun _ _ _ h=>h.hold) (wc' (nat:=0) hN9 hrI9) 1) ?_;rintro e w10 ⟨he,hk10⟩;rw [tO'] at he;obtain ⟨v,u,rfl,hv,hu⟩:=he;obtain ⟨av,cv,rfl,_,_⟩:=hv;obtain ⟨au,cu,rfl,_,_⟩:=hu;have k010:=((k07.tr hk8).tr hk9).tr hk10;rw [rM'.1,rM'.2];exact ⟨rfl,k010⟩
theorem pi' (B:BoT) (e:Int):Fue fun n=>gw' B e (n:Int):=ak' be' (dA' (tD' B e))
theorem pj' (B:BoT) (t y:Tr):Fue (eS' B t y):=aw' (fe' B [] y) fun _=>gx' B [] t y
theorem tP' (B:BoT) (x:EnT) (i:Nat):Fue (pg' B x i):=ak' (pi' B i) (pj' B _ _)
theorem iH' (B:BoT):∀ (l:List EnT) (i:Nat),Fue (cW' B l i)
 | [],i=>az'
 | x :: r,i=>aw' (tP' B x i) fun _=>iH' B r (i + 1)
end
section
variable {B B':BoT} {k n:Nat} {s:Int}
theorem tQ' (he:∀ i:Nat,i < k -> entD B' i = entD B i) (a:Int):dd' B' k a = dd' B k a:=by
 unfold dd'
 by_cases h0:0 <= a
 ·by_cases h1:a < k
  ·obtain ⟨i,rfl⟩:∃ i:Nat,a = (i:Int):=⟨a.toNat,by omega⟩
   rw [he i (by omega)]
  ·rw [decide_eq_false h1]
   simp
 ·rw [decide_eq_false h0]
  simp
theorem rP' (hv:B'.vars = B.vars) (he:∀ i:Nat,i < k -> entD B' i = entD B i) (m:Nd):bd' B' k s m = bd' B k s m:=by
 have hf:=tQ' he m.a;have hk:∀ {f:EnT -> Bool},(decide (0 <= m.a) && (decide (m.a < (k:Int)) && f (entD B' m.a))) = (decide (0 <= m.a) && (decide (m.a < (k:Int)) && f (entD B m.a))):=fun {f}=>by
  by_cases h0:0 <= m.a
  ·by_cases h1:m.a < k
   ·obtain ⟨i,hi⟩:∃ i:Nat,m.a = (i:Int):=⟨m.a.toNat,by omega⟩
    rw [hi,he i (by omega)]
   ·rw [decide_eq_false h1]
    simp
  ·rw [decide_eq_false h0]
   simp
 unfold bd';rw [hf,hv,hk (f:=fun x=>decide (x.kind = 2))]
 by_cases h:dd' B k m.a = true
 ·have:(entD B' m.a) = entD B m.a:=by
   simp only [dd',Bool.and_eq_true,decide_eq_true_eq] at h;obtain ⟨i,hi⟩:∃ i:Nat,m.a = (i:Int):=⟨m.a.toNat,by omega⟩
   rw [hi];exact he i (by omega)
  rw [this]
 ·have:dd' B k m.a = false:=by simpa using h
  rw [this];simp
variable (hv:B'.vars = B.vars) (he:∀ i:Nat,i < k -> entD B' i = entD B i)
include hv he
theorem oC' (l:List Nd) (b:Int):kL' B' k s l b = kL' B k s l b:=by
 unfold kL';simp only [rP' hv he]
theorem fN' {st:Int}:∀ (l:List (List Nd)) (b:Int),bU' B' k s st l b = bU' B k s st l b
 | [],_=>rfl
 | l :: r,b=>by
  simp only [bU'];rw [oC' hv he,fN' r]
theorem jE' {x y:EnT} (h1:y.indices = x.indices) (h2:y.params = x.params):∀ l:List CtT,cS' B' k y l = cS' B k x l
 | []=>rfl
 | c :: r=>by
  simp only [cS'];rw [fN' hv he,fN' hv he,jE' h1 h2 r,h1,h2]
theorem pk' (x:EnT):bW' B' k x = bW' B k x:=by
 unfold bW';simp only [oC' hv he,fN' hv he,jE' hv he rfl rfl]
end
theorem iI' {B:BoT}:∀ (l:List EnT) (i:Nat),(∀ (k:Nat) x,l[k]? = some x -> bW' B (i + k) x = 0) -> bt' B l i = 0
 | [],i,h=>rfl
 | y :: r,i,h=>by
  simp only [bt'];refine aS'.2 ⟨h 0 y rfl,iI' r (i + 1) fun k x hx=>?_⟩;have:=h (k + 1) x hx
  rwa [show i + 1 + k = i + (k + 1) by omega]
def jF' (B:BoT) (n:Nat):BoT:={ vars:=B.vars,orders:=B.orders,ents:=B.ents.take n,nat:=-1,prims:=[] }
section
variable {B:BoT} {n:Nat}
theorem kI' {i:Nat} (h:i < n):entD (jF' B n) i = entD B i:=by
 unfold entD jF';simp only [List.getD_eq_getElem?_getD,Int.toNat_natCast];rw [List.getElem?_take_of_lt h]
theorem tR' (hR:au' B = 0):fA' B.vars B.orders = 0 /\ B.ents.length <= 64 /\ bt' B B.ents 0 = 0 /\ mW' B = true:=by
 unfold au' at hR;split at hR
 ·rename_i g; exact absurd hR g
 split at hR
 ·cases hR
 rename_i g1 g2;obtain ⟨h1,h2⟩:=aS'.1 hR;refine ⟨by omega,by omega,h1,?_⟩;split at h2
 ·assumption
 ·cases h2
theorem iJ' (hR:au' B = 0):au' (jF' B n) = 0:=by
 obtain ⟨h1,h2,h3,_⟩:=tR' hR;unfold au';rw [if_neg (by show ¬ fA' B.vars B.orders ≠ 0; omega),if_neg (by show ¬ 64 < (B.ents.take n).length; rw [List.length_take]; omega)];refine aS'.2 ⟨iI' _ 0 fun k x hx=>?_,?_⟩
 ·have hx:(B.ents.take n)[k]? = some x:=hx
  have hk:=ai' hx;rw [List.length_take] at hk;rw [List.getElem?_take_of_lt (by omega)] at hx;have:=fb' B.ents 0 h3 k x hx;rw [Nat.zero_add] at this ⊢;rw [pk' (B:=B) (B':=jF' B n) rfl (fun i hi=>kI' (by omega)) x];exact this
 ·have:mW' (jF' B n) = true:=by
   unfold mW' jF';simp [ky']
  rw [this]
  rfl
theorem wd' (hB:GoodB B) {P:Nd -> Prop} {i:Nat} {x:EnT} (hi:B.ents[i]? = some x) (hk:x.kind = 1) (hP:∀ m,ah' m = true -> aE' B i i m -> P m):(psM B i).length <= 16 /\ (qiM B i).length <= 16 /\ ∀ c ∈ x.ctors,CtA B P i c:=by
 rcases hB.ent i x hi with ⟨t,ps,qi,hF⟩ | ⟨ty,bo,hD⟩
 ·obtain ⟨e1,e2,e3⟩:=hF.ps_eq hi
  rw [e1,e2];refine ⟨hF.lp,hF.li,fun c hc=>?_⟩;obtain ⟨j,hj⟩:=List.getElem?_of_mem hc;obtain ⟨ga,go,hC⟩:=hF.ct j c hj;have m1:c.args.map tr = ga:=eK' hC.args fun y hy=>by
   obtain ⟨j,hj⟩:=List.getElem?_of_mem hy;exact (hC.fa j y hj).ok
  have m2:c.out.map tr = go:=eK' hC.out fun y hy=>(hC.fo y hy).ok;have l1:c.args.length = ga.length:=by rw [hC.args]; simp
  have l2:c.out.length = go.length:=by rw [hC.out]; simp
  refine ⟨by rw [l1]; exact hC.la,by rw [l2,e2]; exact hC.lo,?_,?_⟩
  ·rw [m1,e1]
   exact fun j y hy=>(hC.fa j y hy).wkP hP
  ·rw [m2,e1,l1]
   exact fun y hy=>(hC.fo y hy).wkP hP
 ·have:=hD.kind
  omega
theorem rQ' (B:BoT) (e:Int) (n:Nat):vP' B e n = ph' B e (entD B e).ctors n:=rfl
theorem tS' (hR:au' B = 0) (hn:n <= B.ents.length) {i:Nat} (hi:i < n) {x:EnT} (hx:B.ents[i]? = some x) (m:Nat):pg' (jF' B n) x i m = pg' B x i m:=by
 have hB:=dz' hR;have hA:Agr B (jF' B n) (aE' B n (-1)):=tK' hB hn rfl rfl (fun i hi=>kI' hi) (.inl rfl);have hR':=iJ' (n:=n) hR;have hxD:=cO' hx;unfold pg';split
 ·rename_i hk
  have hf:bF' B i = 0:=by
   have:=ai' hx;unfold bF';rw [if_neg (by omega),if_neg (by omega),if_neg (by omega),if_neg (by rw [hxD]; omega)]
  have hf':bF' (jF' B n) i = 0:=by
   unfold bF';rw [if_neg (by omega),if_neg (by omega),if_neg (by show ¬ ((B.ents.take n).length:Int) <= i; rw [List.length_take]; omega),if_neg (by rw [kI' hi,hxD]; omega)]
  unfold gw';rw [if_neg (by omega),if_neg (by omega),rQ',rQ',kI' hi];obtain ⟨l1,l2,l3⟩:=wd' (P:=aE' B n (-1)) hB hx hk fun m _ hm=>cN' (by omega) (.inr (rI' hx hk hi)) hm;have hI:tq' B (jF' B n) (aE' B n (-1)) i:=hA.d9 ⟨9,(i:Int),0⟩ (by simp [aE',bd',rI' hx hk hi]) rfl (by simp);rw [hxD];exact vY' hB hA hI l1 l2 x.ctors l3 _
 ·rename_i hk
  rcases hB.ent i x hx with ⟨t,ps,qi,hF⟩ | ⟨ty,bo,hD⟩
  ·exact absurd hF.kind hk
  ·have hn0:CxP (aE' B n (-1)) []:=fun i q hq=>by simp at hq
   rw [hD.type,hD.body,cM' hD.ft.ok,cM' hD.fb.ok];have ft:Ft (aE' B n (-1)) 0 ty:=hD.ft.wkP fun m hp hm=>ff' (by omega) hp hm;have fb:Ft (aE' B n (-1)) 0 bo:=hD.fb.wkP fun m hp hm=>ff' (by omega) hp hm;unfold eS';exact ((eZ' hB hA hn0 (by simp) ft m).bd fun _ n _ _=>(gt' hB hA hn0 (by simp) fb ft n)).1
theorem uz' (hR:au' B = 0) (hn:n <= B.ents.length):∀ (l:List EnT) (i m:Nat),(∀ (k:Nat) x,l[k]? = some x -> i + k < n /\ B.ents[i + k]? = some x) -> cW' (jF' B n) l i m = cW' B l i m
 | [],i,m,_=>rfl
 | x :: r,i,m,h=>by
  simp only [cW'];obtain ⟨h1,h2⟩:=h 0 x rfl;rw [Nat.add_zero] at h1 h2;rw [tS' hR hn h1 h2];have ih:=fun m=>uz' hR hn r (i + 1) m fun k y hy=>by
   have:=h (k + 1) y hy
   rwa [show i + 1 + k = i + (k + 1) by omega]
  simp only [ih]
theorem rR' (l r:List EnT):∀ (i m:Nat),cW' B (l ++ r) i m = bdJ (cW' B l i m) fun _ m=>cW' B r (i + l.length) m:=by
 induction l with
 | nil=>intro i m; rfl
 | cons x l ih =>
  intro i m;simp only [List.cons_append,cW'];cases hx:pg' B x i m with
  | error e=>rfl
  | ok q =>
   show cW' B (l ++ r) (i + 1) q.2 = bdJ (cW' B l (i + 1) q.2) _;rw [ih,List.length_cons,show i + (l.length + 1) = i + 1 + l.length by omega]
theorem oD':∀ (l:List EnT) (i m:Nat),gK' B l i m <= (i:Int) + l.length
 | [],i,m=>by simp [gK']
 | x :: r,i,m=>by
  simp only [gK',List.length_cons];split
  ·omega
  ·rename_i q _
   have:=oD' r (i + 1) q.2;omega
theorem iK' {a:Int}:∀ (l:List (Int × Int)),bv' B l = some a -> ∃ p ∈ l,p.1 = a
 | [],h=>by simp [bv'] at h
 | p :: r,h=>by
  simp only [bv'] at h;split at h
  ·obtain ⟨q,hq,e⟩:=iK' r h
   exact ⟨q,by simp [hq],e⟩
  ·injection h with h
   exact ⟨p,by simp,h⟩
theorem rS' (hR:au' B = 0) (m:Nat):eT' B m <= B.ents.length:=by
 unfold eT';split
 ·have:=oD' (B:=B) B.ents 0 m
  omega
 ·cases h:bv' B B.prims with
  | none=>simp
  | some a =>
   obtain ⟨p,hp,rfl⟩:=iK' _ h;have:=(iF' hR).2 p hp;simp only [Option.getD_some];omega
theorem rT' {m:Nat} {q:Unit × Nat} (h:fM' B m = .ok q):eT' B m = B.ents.length:=by
 unfold fM' at h;obtain ⟨p,hp,h⟩:=aq' h;unfold eT';rw [hp];split at h
 ·rename_i g
  rw [g]
  rfl
 ·cases h
theorem xm' (hR:au' B = 0) (hn:n <= B.ents.length) {m:Nat} (hm:m <= 100000) {q:Unit × Nat} (h:fM' B m = .ok q):∃ m',fM' (jF' B n) m = .ok ((),m') /\ q.2 <= m' /\ eT' (jF' B n) m = n:=by
 unfold fM' at h;obtain ⟨p,hp,h⟩:=aq' h;have hq:q.2 = p.2:=by
  split at h
  ·injection h with h
   rw [<- h]
  ·cases h
 rw [<- List.take_append_drop n B.ents,rR'] at hp;obtain ⟨p1,h1,h2⟩:=aq' hp;have hc:cW' (jF' B n) (jF' B n).ents 0 m = .ok p1:=by
  show cW' (jF' B n) (B.ents.take n) 0 m = _;rw [uz' hR hn,h1];intro k x hx;have hk:=ai' hx;rw [List.length_take] at hk;rw [List.getElem?_take_of_lt (by omega)] at hx;rw [Nat.zero_add];exact ⟨by omega,hx⟩
 have l1:=(iH' B _ _ m p1.1 p1.2 hm h1).1;have l2:=(iH' B _ _ p1.2 p.1 p.2 (by omega) h2).1;have hg:fM' (jF' B n) m = .ok ((),p1.2):=by
  unfold fM';rw [hc]
  rfl
 refine ⟨p1.2,hg,by omega,?_⟩;rw [rT' hg];show ((B.ents.take n).length:Int) = n;rw [List.length_take];omega
end
def ng' (B:BoT) (fuel:Int):Except Int (Unit × Nat):=if au' B ≠ 0 then .error (au' B) else fM' B (aD' fuel)
def eU' (B:BoT) (fuel:Int):Int:=if au' B ≠ 0 then 0 else eT' B (aD' fuel)
theorem SV.takeS {α:Type} {R:Rd α} {C:Mem} {l:List α} {a:Option Addr} {c:Nat} (h:Sl R C a l) (hc:l.length <= c) (k:Nat) (hk:k <= l.length) (z:Nat):sliced a 0 k c z = .slice a k c /\ SV R C (l.take k) (.slice a k c):=by
 refine ⟨?_,⟨a,c,by rw [List.length_take]; congr 1; omega,h.takeN k,by rw [List.length_take]; omega⟩⟩;cases a with
 | none=>simp [sliced]
 | some ad =>
  simp only [sliced,Option.map_some];have:ad.add 0 = ad:=by simp [Addr.add]
  simp [this]
section
variable {w:World}
theorem rU' {C:Mem} (hS:Sub C w) (hold:∀ b o v,C b o v -> b < w.heap.size) {B:BoT} {v:Value} (hv:BoV C B v) (fuel:Int) :
  CC 21 #[v,.int .i64 fuel] w (fun e w'=>AnR (eU' B fuel) (ng' B fuel) e /\ Kp [] w w'):=by
 refine oF Tryz.func21 ?_;obtain ⟨RES,hRES⟩:∃ r,ng' B fuel = r:=⟨_,rfl⟩
 obtain ⟨AT,hAT⟩:∃ r,eU' B fuel = r:=⟨_,rfl⟩
 rw [hRES,hAT];unfold ng' at hRES;unfold eU' at hAT;have hbo:=hv;obtain ⟨v1,v2,v3,rfl,hO,hE,hP⟩:=hv;refine cO (args:=[_,_]) 24 [.tmp 4,.tmp 5,.tmp 6] τok Tryz.func21 ?_;refine new fun b2 w1 hb2 h2 hs1 hk1=>?_;have h2:Bk w1.heap b2 [.int .i64 B.vars,v1,v2,.int .i64 B.nat,v3] 26:=h2;refine ldN [.int .i64 B.vars,v1,v2,.int .i64 B.nat,v3] rfl (bZ h2) ?_;refine ab' (fH' (hS.tr hk1) (Kp.hold hk1 hold) hbo) ?_;rintro e w2 ⟨rfl,hk2⟩;have k02:=hk1.tr hk2;have h2:=h2.kp hk2 (by simp)
 by_cases g:au' B ≠ 0
 ·rw [if_pos g] at hRES hAT
  subst hRES hAT;refine as' g ?_;exact ⟨⟨rfl,g⟩,k02⟩
 refine bS' g ?_;rw [if_neg g] at hRES hAT;have hR:au' B = 0:=Decidable.not_not.1 g;refine ab' (oA' fuel w2) ?_;rintro e w4 ⟨bg,rfl,hbg,hG4,hk4⟩;have k04:=k02.tr hk4;have l03:=k02.size;have hbl:=Bk.lt hG4;have up4:∀ b o v,C b o v -> Im [bg] w4 b o v:=fun b o v h=>⟨hS.tr k04 _ _ _ h,fun hm=>by
  have:=hold _ _ _ h;simp at hm;omega⟩
 have hX4:∀ b ∈ [bg],b < w4.heap.size:=fun b hb=>by
  obtain rfl:b = bg:=by simpa using hb
  exact hbl
 have h2:=h2.kp hk4 (by simp);refine ldN [.int .i64 B.vars,v1,v2,.int .i64 B.nat,v3] rfl (bZ h2) ?_;refine ab' (jC' (w:=w4) hR hX4 (by simp) hG4 (hbo.mono up4)) ?_;rintro e w5 ⟨he,k45⟩;have k05:Kp [] w w5:=k04.trans k45 fun y hy hl=>by
  simp at hy;omega
 unfold EtR at he;rw [hRES,hAT] at he;cases RES with
 | error e' =>
  obtain ⟨rfl,he',hG5⟩:=he;refine ab' (eq' hG5) ?_;rintro e w6 ⟨rfl,hk6⟩;exact ⟨⟨rfl,he'⟩,k05.tr hk6⟩
 | ok q =>
  obtain ⟨rfl,hG5⟩:=he;refine ab' (eq' hG5) ?_;rintro e w6 ⟨rfl,hk6⟩;exact ⟨rfl,k05.tr hk6⟩
theorem iS' {B:BoT} {v:Value} (hv:BoV (Im [] w) B v) (n fuel:Int) :
  CC 8 #[v,.int .i64 n,.int .i64 fuel] w (fun e w'=>e = .returned (.bool true) /\ Kp [] w w'):=by
 refine oF Tryz.func8 ?_;have hbo:=hv;obtain ⟨v1,v2,v3,rfl,hO,hE,hP⟩:=hv;obtain ⟨ae,ce,rfl,hE1,hE2⟩:=id hE;obtain ⟨ao,co,rfl⟩:=hO.len;have hlE:=hE1.1;refine cO (args:=[_,_,_]) 91 [.tmp 6] τok Tryz.func8 ?_;refine new fun b3 w1 hb3 h3 hs1 hk1=>?_;have h3:Bk w1.heap b3 [.int .i64 B.vars,.slice ao B.orders.length co,.slice ae B.ents.length ce,.int .i64 B.nat,v3] 26:=h3;refine ab' (rO' w1) ?_;rintro e w2 ⟨rfl,hk2⟩;have k02:=hk1.tr hk2;have h3:=h3.kp hk2 (by simp);refine ldN [.int .i64 B.vars,.slice ao B.orders.length co,.slice ae B.ents.length ce,.int .i64 B.nat,v3] rfl (bZ h3) ?_;refine ab' (wb' (C:=Im [] w) ((Im.sub [] w).tr k02) hbo (lim:=4000) (by omega)) ?_;rintro e w3 ⟨rfl,hk3⟩;have k03:=k02.tr hk3;have h3:=h3.kp hk3 (by simp);refine ac' (fun g1=>?_) (fun g1=>?_)
 ·exact ⟨rfl,k03⟩
 refine ac' (fun g2=>?_) (fun g2=>?_)
 ·exact ⟨rfl,k03⟩
 have g2:¬ fuel < 0:=g2;refine ac' (fun g3=>?_) (fun g3=>?_)
 ·exact ⟨rfl,k03⟩
 have g3:¬ 600 < fuel:=g3;refine ldN [.int .i64 B.vars,.slice ao B.orders.length co,.slice ae B.ents.length ce,.int .i64 B.nat,v3] rfl (bZ h3) ?_;refine ab' (rU' (w:=w3) (C:=Im [] w) ((Im.sub [] w).tr k03) (fun _ _ _ h=>Nat.lt_of_lt_of_le h.hold k03.size) hbo fuel) ?_;rintro e w4 ⟨he,hk4⟩;have k04:=k03.tr hk4;have h3:=h3.kp hk4 (by simp);cases hr:ng' B fuel with
 | error er =>
  have hat:eU' B fuel <= B.ents.length:=by
   unfold eU';split
   ·omega
   ·rename_i g
    exact rS' (Decidable.not_not.1 g) _
  obtain ⟨AT,hAT⟩:∃ r,eU' B fuel = r:=⟨_,rfl⟩
  rw [hAT] at hat;rw [hr,hAT] at he;obtain ⟨rfl,her⟩:=he;refine as' (p:=er ≠ 0) her ?_;refine lb h3 ?_;refine as' (p:=AT <= (B.ents.length:Int)) hat ?_;exact ⟨rfl,k04⟩
 | ok q =>
  obtain ⟨⟨⟩,left⟩:=q;have hR:au' B = 0 /\ fM' B (aD' fuel) = .ok ((),left):=by
   unfold ng' at hr;split at hr
   ·cases hr
   ·rename_i g
    exact ⟨Decidable.not_not.1 g,hr⟩
  obtain ⟨hR,hG⟩:=hR;have hat:eU' B fuel = B.ents.length:=by
   unfold eU';rw [if_neg (by rw [hR]; simp),rT' hG]
  rw [hr,hat] at he;obtain rfl:=he;have hlen:=(dz' hR).len;refine ac' (fun g4=>?_) (fun g4=>?_)
  ·refine lb h3 ?_
   exact ⟨by simp [Go.Wx.one],k04⟩
  have g4:¬ n < 0:=g4;refine lb h3 ?_;refine ac' (fun g5=>?_) (fun g5=>?_)
  ·refine lb h3 ?_
   exact ⟨by simp [Go.Wx.one],k04⟩
  have g5:¬ (B.ents.length:Int) < n:=g5;obtain ⟨k,rfl⟩:∃ k:Nat,n = (k:Int):=⟨n.toNat,by omega⟩
  obtain ⟨s1,s2⟩:=SV.takeS (z:=7) hE1 hE2 k (by omega);obtain ⟨m',b1,b2,b3⟩:=xm' (n:=k) hR (by omega) (m:=aD' fuel) (by unfold aD'; omega) hG;have hcb:ng' (jF' B k) fuel = .ok ((),m') /\ eU' (jF' B k) fuel = k:=by
   unfold ng' eU';rw [if_neg (by rw [iJ' hR]; simp),if_neg (by rw [iJ' hR]; simp)];exact ⟨b1,b3⟩
  refine al' τok (fun z=>Kp [] w4 z) ?_;refine rV τok (rg 0 10) 8 (mR 18 10) (kQd w4) ?_;refine lk h3 ?_;refine lk h3 ?_;refine lk h3 ?_;refine uL' τok rfl k _ rfl (by omega) s1 ?_;refine nV τok 10 7 (mR 18 11) ?_;refine ab' (rU' (w:=(dr w4)) (C:=Im [] w) ((Im.sub [] w).tr (k04.dr _)) (fun _ _ _ h=>Nat.lt_of_lt_of_le h.hold k04.size) (B:=jF' B k) ⟨_,_,_,rfl,hO,s2,SV.nil _ _⟩ fuel) ?_;rintro e w5 ⟨he,hk5⟩;have hk5:Kp [] w4 w5:=hk5.rd;have h3:=h3.kp hk5 (by simp);rw [hcb.1,hcb.2] at he;obtain rfl:=he;refine ⟨.inl hk5,?_⟩;refine rV τok (rg 11 7) 0 (mR 18 18) hk5 ?_;refine dV ?_;refine as' (p:=(k:Int) = (k:Int)) rfl ?_;refine as' (p:=(left:Int) <= (m':Int)) (by have:left <= m':=b2; omega) ?_;refine lb h3 ?_;exact ⟨by simp [Go.Wx.one],k04.tr hk5⟩
end
end Go.Proofs.YtmpgcpemnjbgjaaGreat
namespace Go.Wx
open Go.ChangeShapes Go.WideShapes Go.ChangeAt Go.RowKit
theorem mf' {H:Type} {enc:TypeId × Value -> H} {P:Program} (hl:laidOutB P = true) {W W':World} (hb:Below W.heap.size W W') :
  ∀ (ts:List TypeId) (vs:List Value) (ds:List (DataW H)) (ps:List MemPlace),(ts.all fun t=>P.readableRec t && Nat.blt t P.types.size) = true -> DataW.TrodAll enc P W 0 (fun _=>true) true ts vs ds ps ->
   (∀ x ∈ ps,x.block < W.heap.size) -> ∀ sp:Nat -> Bool,(∀ p ∈ ps,sp p.block = true) -> DataW.TrodAll enc P W' 0 sp true ts vs ds ps
 | [],vs,ds,ps,_,h,_,sp,_=>by
  obtain ⟨rfl,rfl,rfl⟩:=trodAll_nil h
  rfl
 | t :: ts,vs,ds,ps,hts,h,hlt,sp,hsp=>by
  obtain ⟨v,vs',d,ds',p,q,rfl,rfl,rfl,h0,h1⟩:=trodAll_cons h;simp only [List.all_cons,Bool.and_eq_true] at hts;refine ⟨p,q,?_,mf' hl hb ts _ _ _ hts.2 h1 (fun x hx=>hlt x (by simp [hx])) sp (fun x hx=>hsp x (by simp [hx])),rfl⟩;exact WideElems.Trod_stays hl hts.1.1 (by simpa [Nat.blt_eq] using hts.1.2) h0 (fun x hx=>hb.same (hlt x (by simp [hx]))) (fun x hx=>hsp x (by simp [hx]))
theorem rV' {H:Type} {enc:TypeId × Value -> H} {P:Program} {f:Func} {s:ChangeSpec} {apart fresh handsOn:Bool} {W W':World} {args:Array Value} {ds gs:List (DataW H)} {before:List MemPlace} {tb:TypeId}
  (hl:laidOutB P = true) (hts:(f.params.toList.all fun t=>P.readableRec t && Nat.blt t P.types.size) = true) (hrt:f.resultTypes = #[tb]) (hb:P.underlying tb = some .bool)
  (hW:DataW.Whole enc P f.params.toList s.vars apart W args.toList ds gs before) (hs:s.vars = []) (hres:(s.fn H ds).results = [.lit (.bool true)]) (hargs:(s.fn H ds).args = ds) (hvars:(s.fn H ds).vars = [])
  (hk:Kp [] W W'):s.post enc P f apart fresh handsOn false W args (.bool true) W':=by
 have hW':=hW;obtain ⟨p,q,hA,hV,rfl,hfz,hnd⟩:=hW;rw [hs] at hV;obtain ⟨rfl,rfl⟩:=trodVars_none hV;have hbl:=hk.below;have hlt:∀ x ∈ p,x.block < W.heap.size:=fun x hx=>hW'.lt x (by simp [hx]);refine ⟨ds,[],p ++ [],[],p,[],hW',?_,?_,?_,?_,fun h=>by cases h⟩
 ·rw [List.append_nil,hres,hrt]
  exact trodAll_mk1 (shut_bool hb true)
 ·rw [List.append_nil,hargs]
  exact mf' hl hbl _ _ _ _ hts hA hlt _ fun x hx=>by simpa using hlt x hx
 ·rw [List.append_nil,hvars,hs]
  rfl
 ·exact hbl.frame _
end Go.Wx
namespace Go.Proofs.YtmpgcpemnjbgjaaGreat
open Go.Wx Go.ChangeShapes Go.WideShapes Go.ChangeAt Go.RowKit
theorem tT' {H:Type} (d:DataW H):1 <= Rows.uptoBulk d:=by
 cases d with
 | lit l=>cases l <;> simp [Rows.uptoBulk]
 | nil=>simp [Rows.uptoBulk]
 | ptr d=>simp [Rows.uptoBulk]
 | slice elems spare=>simp [Rows.uptoBulk]
 | agg parts=>simp [Rows.uptoBulk]
 | iface t d=>simp [Rows.uptoBulk]
 | map entries=>simp [Rows.uptoBulk]
 | held h=>simp [Rows.uptoBulk]
theorem iL' {H:Type} {d:DataW H} {l:List (DataW H)} (h:d ∈ l):Rows.uptoBulk d <= Rows.uptoBulkAll l:=by
 induction l with
 | nil=>cases h
 | cons x r ih =>
  simp only [Rows.uptoBulkAll];cases List.mem_cons.1 h with
  | inl e=>subst e; omega
  | inr e=>have:=ih e; omega
theorem tU' {H:Type} (l:List (DataW H)):l.length <= Rows.uptoBulkAll l:=by
 induction l with
 | nil=>simp [Rows.uptoBulkAll]
 | cons x r ih=>have:=tT' x; simp only [Rows.uptoBulkAll,List.length_cons]; omega
theorem we' {H:Type} {l:List (DataW H)} (hk:Rows.uptoSmall H l = true):Rows.uptoBulkAll l <= 1048576:=of_decide_eq_true hk
theorem tV' {H:Type} (l r:List (DataW H)):Rows.uptoBulkAll (l ++ r) = Rows.uptoBulkAll l + Rows.uptoBulkAll r:=by
 induction l with
 | nil=>simp [Rows.uptoBulkAll]
 | cons x l ih=>simp only [List.cons_append,Rows.uptoBulkAll,ih]; omega
theorem bR' {H:Type} {xs:List (DataW H × List MemPlace)} {x:DataW H × List MemPlace} (hx:x ∈ xs) (hB:Rows.uptoBulk (.agg (xs.map (·.1))) <= 1048576):Rows.uptoBulk x.1 <= 1048576:=by
 have:=iL' (List.mem_map_of_mem (f:=(·.1)) hx);simp only [Rows.uptoBulk] at hB;omega
section
variable {H:Type} {enc:TypeId × Value -> H} {w:World} {spare:Nat -> Bool} {held:Bool}
theorem nh' {a:Addr} {v:Value} (h:w.cell? a = some v):∃ b o,a = ⟨b,o,none⟩:=by
 obtain ⟨b,o,s⟩:=a;unfold World.cell? at h;split at h
 ·rename_i c T fz hb
  cases s with
  | none=>exact ⟨b,o,rfl⟩
  | some _=>simp at h
 ·cases h
theorem tW' {α:Type} [Inhabited α] {t e:TypeId} (R:Rd α) (hk:0 < R.sz) (ht:Tryz.prog.underlying t = some (.slice e)) (hc:Tryz.prog.cellsOf e = R.sz) (ok:DataW H -> Prop)
  (one:∀ (cs:List Value) (n:Nat) (y:DataW H × List MemPlace),cs.length = R.sz -> DataW.trod enc Tryz.prog w 0 spare held n e cs = some y -> ok y.1 -> ∃ x:α,R.den (Old w) cs x)
  {fuel:Nat} {v:Value} {x:DataW H × List MemPlace} (h:DataW.trod enc Tryz.prog w 0 spare held fuel t [v] = some x) (hok:∀ es sp,x.1 = .slice es sp -> ∀ d ∈ es,ok d) :
  ∃ (a:Option Addr) (l:List α) (cap:Nat),v = .slice a l.length cap /\ (l.length <= 1099511627776 -> Sl R (Old w) a l) /\ (l.length = 0 \/ ∃ es sp,x.1 = .slice es sp /\ es.length = l.length):=by
 rcases Go.Deep.open_slice ht h with ⟨h1,rfl⟩ | ⟨a,len,cap,m,n,D,Pl,h1,hb,hl,hm,hmm,rfl,hx⟩
 ·simp only [List.cons.injEq,and_true] at h1
  subst h1;exact ⟨none,[],0,rfl,fun _=>Sl.nil _ _ _,.inl rfl⟩
 simp only [List.cons.injEq,and_true] at h1;subst h1;have hlm:len <= m:=by rw [hmm]; split <;> omega
 rw [hc] at hx;have each:∀ i,i < len -> ∃ q:α × List Value,R.den (Old w) q.2 q.1 /\ ∀ j u,q.2[j]? = some u -> w.cell? (a.add (i * R.sz + j)) = some u:=by
  intro i hi;obtain ⟨cs',h1,h2⟩:=hx i (by omega);obtain ⟨_,hlen,hcell⟩:=World.cells?_some h1;obtain ⟨x,hx⟩:=one cs' n _ hlen h2 (hok _ _ rfl _ (List.mem_map.2 ⟨i,by simpa using hi,rfl⟩));refine ⟨(x,cs'),hx,fun j u hu=>?_⟩;have hj:j < R.sz:=by rw [<- hlen]; exact ai' hu
  rw [<- Go.Deep.add_add,hcell j hj];exact hu
 obtain ⟨q,hq⟩:=Go.Deep.choose_lt each;refine ⟨some a,(List.range len).map fun i=>(q i).1,cap,by simp,fun hbig=>⟨hbig,?_⟩,.inr ⟨_,_,rfl,by simp⟩⟩
 by_cases h0:len = 0
 ·exact .inl (by simp [h0])
 obtain ⟨hd0,hz⟩:=hq 0 (by omega);have hl0:=R.len hd0;obtain ⟨u0,hu0⟩:∃ u,(q 0).2[0]? = some u:=⟨(q 0).2[0]'(by omega),by simp⟩
 have hz0:=hz 0 u0 hu0;rw [Nat.zero_mul,Nat.add_zero] at hz0;have hz':w.cell? a = some u0:=by simpa [Addr.add] using hz0
 obtain ⟨b,o,rfl⟩:=nh' hz';refine .inr ⟨b,o,rfl,fun i x hi=>?_⟩;rw [List.getElem?_map] at hi;have hil:i < len:=by
  rcases Nat.lt_or_ge i len with h | h
  ·exact h
  ·rw [List.getElem?_eq_none (by simpa using h)] at hi; cases hi
 rw [List.getElem?_range hil] at hi;have hi:=Option.some.inj hi;subst hi;obtain ⟨hdi,hci⟩:=hq i hil;refine ⟨(q i).2,hdi,fun j u hj=>Cl.of ?_⟩;have:=hci j u hj;rw [dY'] at this;rw [Nat.add_assoc];exact this
theorem wf' {α:Type} [Inhabited α] {t e:TypeId} (R:Rd α) (hk:0 < R.sz) (ht:Tryz.prog.underlying t = some (.slice e)) (hc:Tryz.prog.cellsOf e = R.sz)
  (one:∀ (cs:List Value) (n:Nat) (y:DataW H × List MemPlace),cs.length = R.sz -> DataW.trod enc Tryz.prog w 0 spare held n e cs = some y -> Rows.uptoBulk y.1 <= 1048576 -> ∃ x:α,R.den (Old w) cs x)
  {fuel:Nat} {v:Value} {x:DataW H × List MemPlace} (h:DataW.trod enc Tryz.prog w 0 spare held fuel t [v] = some x) (hB:Rows.uptoBulk x.1 <= 1048576):∃ l,(rSl R).den (Old w) [v] l:=by
 obtain ⟨a,l,cap,h1,h2,h3⟩:=tW' R hk ht hc (fun d=>Rows.uptoBulk d <= 1048576) one h (fun es sp e d hd=>by
  rw [e] at hB;have:=iL' hd;simp only [Rows.uptoBulk] at hB;omega)
 refine ⟨l,a,cap,by rw [h1],h2 ?_⟩;rcases h3 with h3 | ⟨es,sp,e,hl⟩
 ·omega
 ·rw [e] at hB
  have:=tU' es;simp only [Rows.uptoBulk] at hB;omega
end
end Go.Proofs.YtmpgcpemnjbgjaaGreat
namespace Go.Proofs.YtmpgcpemnjbgjaaGreat
open Go.Wx Cd Tm Lv Go.ChangeShapes Go.WideShapes Go.ChangeAt Go.RowKit
instance:Inhabited Nd:=⟨⟨0,0,0⟩⟩
instance:Inhabited aZ':=⟨⟨0,0,0⟩⟩
instance:Inhabited BoT:=⟨⟨0,[],[],-1,[]⟩⟩
section
variable {H:Type} {enc:TypeId × Value -> H} {w:World} {spare:Nat -> Bool} {held:Bool}
theorem wg' {z:Int} (h:(Lit.int .i64 z).wf = true):I64 z:=by
 simpa [I64,Lit.wf,IntKind.min,IntKind.max,IntKind.signed,IntKind.bits] using h
theorem gf' {α:Type} [Inhabited α] {t e:TypeId} (R:Rd α) (hk:0 < R.sz) (ht:Tryz.prog.underlying t = some (.slice e)) (hc:Tryz.prog.cellsOf e = R.sz)
  (one:∀ (cs:List Value) (n:Nat) (y:DataW H × List MemPlace),cs.length = R.sz -> DataW.trod enc Tryz.prog w 0 spare held n e cs = some y -> Rows.uptoBulk y.1 <= 1048576 -> ∃ x:α,R.den (Old w) cs x)
  {fuel:Nat} {v:Value} {x:DataW H × List MemPlace} (h:DataW.trod enc Tryz.prog w 0 spare held fuel t [v] = some x) (hB:Rows.uptoBulk x.1 <= 1048576):∃ l,SV R (Old w) l v:=by
 obtain ⟨l,a,c,e,hs⟩:=wf' R hk ht hc one h hB;have e:v = .slice a l.length c:=by simpa using e
 refine ⟨l,a,c,e,hs,?_⟩;rcases Go.Deep.open_slice ht h with ⟨h1,rfl⟩ | ⟨a',len,cap,m,k,D,Pl,h1,hb,hl,_⟩
 ·rw [e] at h1
  have h1:=(List.cons.inj h1).1;injection h1 with q1 q2 q3
  omega
 ·rw [e] at h1
  have h1:=(List.cons.inj h1).1;injection h1 with q1 q2 q3
  omega
theorem cU' {n:Nat} {cs:List Value} {y:DataW H × List MemPlace} (hn:DataW.trod enc Tryz.prog w 0 spare held n 3 cs = some y):∃ z,cs = [.int .i64 z] /\ I64 z:=by
 obtain ⟨z,rfl,rfl,hw⟩:=DataW.trod_int Tryz.underlying3 hn;exact ⟨z,rfl,wg' hw⟩
theorem wh' {n:Nat} {cs:List Value} {y:DataW H × List MemPlace} (hl:cs.length = 3) (hn:DataW.trod enc Tryz.prog w 0 spare held n 43 cs = some y):∃ x,rNd.den (Old w) cs x:=by
 obtain ⟨xs,m,rfl,rfl,_,hxl,hf⟩:=DataW.trod_struct Tryz.underlying43 hn
 match cs,hl,xs,hxl with
 | [c0,c1,c2],_,[x0,x1,x2],_ =>
  have g0:=hf 0 _ rfl;have g1:=hf 1 _ rfl;have g2:=hf 2 _ rfl;simp [show Tryz.prog.cellsOf 3 = 1 by kernel_rfl] at g0 g1 g2;obtain ⟨z0,e0,w0⟩:=cU' g0;obtain ⟨z1,e1,w1⟩:=cU' g1;obtain ⟨z2,e2,w2⟩:=cU' g2;simp at e0 e1 e2;subst e0 e1 e2;exact ⟨⟨z0,z1,z2⟩,rfl,w0,w1,w2⟩
theorem wi' {n:Nat} {cs:List Value} {y:DataW H × List MemPlace} (hl:cs.length = 3) (hn:DataW.trod enc Tryz.prog w 0 spare held n 204 cs = some y):∃ x,rOr.den (Old w) cs x:=by
 obtain ⟨xs,m,rfl,rfl,_,hxl,hf⟩:=DataW.trod_struct Tryz.underlying204 hn
 match cs,hl,xs,hxl with
 | [c0,c1,c2],_,[x0,x1,x2],_ =>
  have g0:=hf 0 _ rfl;have g1:=hf 1 _ rfl;have g2:=hf 2 _ rfl;simp [show Tryz.prog.cellsOf 3 = 1 by kernel_rfl] at g0 g1 g2;obtain ⟨z0,e0,w0⟩:=cU' g0;obtain ⟨z1,e1,w1⟩:=cU' g1;obtain ⟨z2,e2,w2⟩:=cU' g2;simp at e0 e1 e2;subst e0 e1 e2;exact ⟨⟨z0,z1,z2⟩,rfl,w0,w1,w2⟩
theorem wj' {n:Nat} {cs:List Value} {y:DataW H × List MemPlace} (hl:cs.length = 2) (hn:DataW.trod enc Tryz.prog w 0 spare held n 63 cs = some y):∃ x,rPr.den (Old w) cs x:=by
 obtain ⟨xs,m,rfl,rfl,_,hxl,hf⟩:=DataW.trod_struct Tryz.underlying63 hn
 match cs,hl,xs,hxl with
 | [c0,c1],_,[x0,x1],_ =>
  have g0:=hf 0 _ rfl;have g1:=hf 1 _ rfl;simp [show Tryz.prog.cellsOf 3 = 1 by kernel_rfl] at g0 g1;obtain ⟨z0,e0,w0⟩:=cU' g0;obtain ⟨z1,e1,w1⟩:=cU' g1;simp at e0 e1;subst e0 e1;exact ⟨(z0,z1),rfl,w0,w1⟩
theorem fO' {n:Nat} {v:Value} {y:DataW H × List MemPlace} (hn:DataW.trod enc Tryz.prog w 0 spare held n 35 [v] = some y) (hB:Rows.uptoBulk y.1 <= 1048576):∃ l,SV rNd (Old w) l v :=
 gf' rNd (by decide) Tryz.underlying35 (by kernel_rfl) (fun cs n y hl hn hb=>wh' hl hn) hn hB
theorem eL' {n:Nat} {v:Value} {y:DataW H × List MemPlace} (hn:DataW.trod enc Tryz.prog w 0 spare held n 36 [v] = some y) (hB:Rows.uptoBulk y.1 <= 1048576):∃ l,SV (rSk rNd) (Old w) l v :=
 gf' (rSk rNd) Nat.one_pos Tryz.underlying36 (by kernel_rfl) (fun cs n y hl hn hb=>by
  match cs,hl with
  | [c],_ =>
   obtain ⟨l,a,cc,rfl,hs,hcap⟩:=fO' hn hb;exact ⟨l,a,cc,rfl,hcap,hs⟩) hn hB
theorem wk' {n:Nat} {cs:List Value} {y:DataW H × List MemPlace} (hl:cs.length = 2) (hn:DataW.trod enc Tryz.prog w 0 spare held n 41 cs = some y) (hB:Rows.uptoBulk y.1 <= 1048576):∃ x,rCt.den (Old w) cs x:=by
 obtain ⟨xs,m,rfl,rfl,_,hxl,hf⟩:=DataW.trod_struct Tryz.underlying41 hn
 match cs,hl,xs,hxl with
 | [c0,c1],_,[x0,x1],_ =>
  have g0:=hf 0 _ rfl;have g1:=hf 1 _ rfl;simp [show Tryz.prog.cellsOf 36 = 1 by kernel_rfl] at g0 g1;obtain ⟨l0,h0⟩:=eL' g0 (bR' (x:=x0) (by simp) hB);obtain ⟨l1,h1⟩:=eL' g1 (bR' (x:=x1) (by simp) hB);exact ⟨⟨l0,l1⟩,_,_,rfl,h0,h1⟩
theorem wl' {n:Nat} {cs:List Value} {y:DataW H × List MemPlace} (hl:cs.length = 7) (hn:DataW.trod enc Tryz.prog w 0 spare held n 39 cs = some y) (hB:Rows.uptoBulk y.1 <= 1048576):∃ x,rEn.den (Old w) cs x:=by
 obtain ⟨xs,m,rfl,rfl,_,hxl,hf⟩:=DataW.trod_struct Tryz.underlying39 hn
 match cs,hl,xs,hxl with
 | [c0,c1,c2,c3,c4,c5,c6],_,[x0,x1,x2,x3,x4,x5,x6],_ =>
  have g0:=hf 0 _ rfl;have g1:=hf 1 _ rfl;have g2:=hf 2 _ rfl;have g3:=hf 3 _ rfl;have g4:=hf 4 _ rfl;have g5:=hf 5 _ rfl;have g6:=hf 6 _ rfl;simp [show Tryz.prog.cellsOf 3 = 1 by kernel_rfl,show Tryz.prog.cellsOf 36 = 1 by kernel_rfl,show Tryz.prog.cellsOf 35 = 1 by kernel_rfl,show Tryz.prog.cellsOf 37 = 1 by kernel_rfl] at g0 g1 g2 g3 g4 g5 g6;obtain ⟨z0,e0,w0⟩:=cU' g0;obtain ⟨l1,h1⟩:=fO' g1 (bR' (x:=x1) (by simp) hB);obtain ⟨l2,h2⟩:=eL' g2 (bR' (x:=x2) (by simp) hB);obtain ⟨l3,h3⟩:=eL' g3 (bR' (x:=x3) (by simp) hB);obtain ⟨l4,h4⟩:=gf' rCt (by decide) Tryz.underlying37 (by kernel_rfl) (fun cs n y hl hn hb=>wk' hl hn hb) g4 (bR' (x:=x4) (by simp) hB);obtain ⟨l5,h5⟩:=fO' g5 (bR' (x:=x5) (by simp) hB);obtain ⟨l6,h6⟩:=fO' g6 (bR' (x:=x6) (by simp) hB);simp at e0;subst e0;exact ⟨⟨z0,l1,l2,l3,l4,l5,l6⟩,_,_,_,_,_,_,rfl,w0,h1,h2,h3,h4,h5,h6⟩
theorem wm' {n:Nat} {cs:List Value} {y:DataW H × List MemPlace} (hl:cs.length = 5) (hn:DataW.trod enc Tryz.prog w 0 spare held n 26 cs = some y) (hB:Rows.uptoBulk y.1 <= 1048576):∃ x,rBo.den (Old w) cs x:=by
 obtain ⟨xs,m,rfl,rfl,_,hxl,hf⟩:=DataW.trod_struct Tryz.underlying26 hn
 match cs,hl,xs,hxl with
 | [c0,c1,c2,c3,c4],_,[x0,x1,x2,x3,x4],_ =>
  have g0:=hf 0 _ rfl;have g1:=hf 1 _ rfl;have g2:=hf 2 _ rfl;have g3:=hf 3 _ rfl;have g4:=hf 4 _ rfl;simp [show Tryz.prog.cellsOf 3 = 1 by kernel_rfl,show Tryz.prog.cellsOf 22 = 1 by kernel_rfl,show Tryz.prog.cellsOf 23 = 1 by kernel_rfl,show Tryz.prog.cellsOf 24 = 1 by kernel_rfl] at g0 g1 g2 g3 g4;obtain ⟨z0,e0,w0⟩:=cU' g0;obtain ⟨l1,h1⟩:=gf' rOr (by decide) Tryz.underlying22 (by kernel_rfl) (fun cs n y hl hn hb=>wi' hl hn) g1 (bR' (x:=x1) (by simp) hB);obtain ⟨l2,h2⟩:=gf' rEn (by decide) Tryz.underlying23 (by kernel_rfl) (fun cs n y hl hn hb=>wl' hl hn hb) g2 (bR' (x:=x2) (by simp) hB);obtain ⟨z3,e3,w3⟩:=cU' g3;obtain ⟨l4,h4⟩:=gf' rPr (by decide) Tryz.underlying24 (by kernel_rfl) (fun cs n y hl hn hb=>wj' hl hn) g4 (bR' (x:=x4) (by simp) hB);simp at e0 e3;subst e0 e3;exact ⟨⟨z0,l1,l2,z3,l4⟩,_,_,_,rfl,w0,w3,h1,h2,h4⟩
end
section
variable {H:Type} {enc:TypeId × Value -> H} {w:World} {spare:Nat -> Bool} {held:Bool}
theorem rW' {r:Reach} {b0:Nat} {v:Value} {d:DataW H} {ps:List MemPlace} (hval:Value.okWide Tryz.prog w r b0 26 v) (h:DataW.Trod enc Tryz.prog w 0 spare held 26 v d ps) (hB:Rows.uptoBulk d <= 1048576) :
  ∃ x,BoV (Im [] w) x v:=by
 obtain ⟨cs,rfl,hs⟩:=okWide_struct Tryz.underlying26 hval;obtain ⟨fuel,hf0⟩:=h;have hsz:cs.size = 5:=by rw [hs]; kernel_rfl
 obtain ⟨x,v1,v2,v3,e0,i0,i1,h1,h2,h3⟩:=wm' (cs:=cs.toList) (by simpa using hsz) (by simpa [Value.cells] using hf0) hB;have e1:cs = #[.int .i64 x.vars,v1,v2,.int .i64 x.nat,v3]:=by
  have:=congrArg List.toArray e0
  simpa using this
 subst e1;exact ⟨x,BoV.mono (C:=Old w) ⟨v1,v2,v3,rfl,h1,h2,h3⟩ fun b o v h=>⟨Old.sub w _ _ _ h,by simp⟩⟩
end
end Go.Proofs.YtmpgcpemnjbgjaaGreat
