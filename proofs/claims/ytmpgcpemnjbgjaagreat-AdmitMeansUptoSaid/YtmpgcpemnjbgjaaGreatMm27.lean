import Derived.Test.YtmpgcpemnjbgjaaGreatMm26
set_option linter.unusedVariables false
set_option linter.unusedSimpArgs false
set_option maxRecDepth 100000
set_option maxHeartbeats 4000000
namespace Go.Proofs.YtmpgcpemnjbgjaaGreat
open Go.Wx Cd Tm Lv
def rC:List Nd:=[⟨10,0,0⟩]
theorem no':qo' ⟨BN rI 0,rC,rI⟩ 9 = .ok ((),8) /\ kZ' ⟨BN rI 0,rC,rI⟩ 9 = 1:=⟨by kernel_rfl,by kernel_rfl⟩
theorem qp':qo' ⟨BN rI 0,rC,rT⟩ 9 = .error 13 /\ kZ' ⟨BN rI 0,rC,rT⟩ 9 = 1:=⟨by kernel_rfl,by kernel_rfl⟩
theorem sb':gV' (BN rI 0) 1 = .ok (kT' 0,tV' 0 (fb' (BN rI 0) 1)):=by kernel_rfl
theorem qq':(kT' 0).length = 5 /\ (tV' 0 (fb' (BN rI 0) 1)).length = 26:=⟨by kernel_rfl,by kernel_rfl⟩
section
variable {w:World}
theorem lY' (w:World) :
  CC 22 #[] w (fun e w'=>(∃ b3 b6 b7 b9 b11,e = .returned (.agg #[iV 0,.slice none 0 0,.slice (some ⟨b11,0,none⟩) 1 1,iV 0,.slice none 0 0]) /\ uk' w' b3 b7 b9 b11 (.slice (some ⟨b6,0,none⟩) 1 1) /\ Bk w'.heap b6 [iV 9,iV 0,iV 0] 43 /\ w.heap.size <= b3 /\ b3 < b6 /\ b6 < b7 /\ b7 < b9 /\ b9 < b11) /\ Kp [] w w'):=by
 refine oF Tryz.func22 ?_;refine cO (args:=[]) 13 [.cell 0 26] τok Tryz.func22 ?_;refine new fun b0 w0 hb0 h0 hs0 hk0=>?_;refine fill [iV 2,iV 1,iV 1,iV 3,iV 0,iV 0] rfl ?_;refine new fun b3 w1 hb3 h3 hs1 hk1=>?_;refine fill [iV 9,iV 0,iV 0] rfl ?_;refine new fun b6 w2 hb6 h6 hs2 hk2=>?_;refine fill [.slice (some ⟨b6,0,none⟩) 1 1] rfl ?_;refine new fun b7 w3 hb7 h7 hs3 hk3=>?_;refine fill [.slice none 0 0,.slice none 0 0,.slice (some ⟨b7,0,none⟩) 1 1,.slice none 0 0] rfl ?_;refine new fun b9 w4 hb9 h9 hs4 hk4=>?_;refine fill [iV 1,.slice (some ⟨b3,0,none⟩) 2 2,.slice none 0 0,.slice none 0 0,.slice (some ⟨b9,0,none⟩) 2 2,.slice none 0 0,.slice none 0 0] rfl ?_;refine new fun b11 w5 hb11 h11 hs5 hk5=>?_;have k45:=hk5;have k35:=hk4.tr k45;have k25:=hk3.tr k35;have k15:=hk2.tr k25;have k05:=hk1.tr k15;refine stN (vs:=[iV 0,.slice none 0 0,.slice (some ⟨b11,0,none⟩) 1 1,iV 0,.slice none 0 0]) (h0.kp k05 (by simp)) rfl (by simp [Value.oneCell']) fun w6 h06 hs6 hk6=>?_;refine mg' τok rfl [_,_,_,_,_] rfl (fun j v hj=>h06.cl hj) ?_;have z0:b0 = w.heap.size:=hb0;have z3:b3 = w0.heap.size:=hb3;have z6:b6 = w1.heap.size:=hb6;have z7:b7 = w2.heap.size:=hb7;have z9:b9 = w3.heap.size:=hb9;have z11:b11 = w4.heap.size:=hb11;refine ⟨⟨b3,b6,b7,b9,b11,rfl,⟨(h3.kp k15 (by simp)).kp hk6 (by simp; omega),(h7.kp k35 (by simp)).kp hk6 (by simp; omega),(h9.kp k45 (by simp)).kp hk6 (by simp; omega),h11.kp hk6 (by simp; omega)⟩,(h6.kp k25 (by simp)).kp hk6 (by simp; omega),by omega,by omega,by omega,by omega,by omega⟩,(hk0.tr k05).newSt hb0 hk6⟩
theorem qr' (w:World) :
  CC 18 #[] w (fun e w'=>e = .returned (.bool true) /\ Kp [] w w'):=by
 refine oF Tryz.func18 ?_;refine cO (args:=[]) 78 [.tmp 0] τok Tryz.func18 ?_;refine ab' (lY' w) ?_;rintro e w1 ⟨⟨b3,b6,b7,b9,b11,rfl,hN,h6,_⟩,hk1⟩;refine fill [iV 10,iV 0,iV 0] rfl ?_;refine new fun bm w2 hbm hm hs2 hk2=>?_;refine fill [iV 9,iV 0,iV 0] rfl ?_;refine new fun bt w3 hbt ht hs3 hk3=>?_;refine new fun bp w4 hbp hp hs4 hk4=>?_;refine stN (vs:=[iV 0,.slice none 0 0,.slice (some ⟨b11,0,none⟩) 1 1,iV 0,.slice none 0 0,.slice (some ⟨bm,0,none⟩) 1 1,.slice (some ⟨bt,0,none⟩) 1 1]) hp rfl (by simp [Value.oneCell']) fun w5 hp hs5 hk5=>?_;have k35:=hk4.newSt hbp hk5;have zp:bp = w3.heap.size:=hbp;have k25:=hk3.tr k35;have k15:=hk2.tr k25;have k05:=hk1.tr k15;obtain ⟨g3,g7,g9,g11⟩:=hN;have g3:=g3.kp k15 (by simp);have g7:=g7.kp k15 (by simp);have g9:=g9.kp k15 (by simp);have l11:=g11.lt;have g11:=g11.kp k15 (by simp);have h6:=h6.kp k15 (by simp);have hm:=hm.kp k25 (by simp);have ht:=ht.kp k35 (by simp);have hN5:uk' w5 b3 b7 b9 b11 (.slice (some ⟨b6,0,none⟩) 1 1):=⟨g3,g7,g9,g11⟩
 have hrI:SV rNd (Im [] w5) rI (.slice (some ⟨b6,0,none⟩) 1 1):=fM' h6 ⟨rfl,⟨by simp,by simp⟩,⟨by simp,by simp⟩,⟨by simp,by simp⟩⟩;have hrC:SV rNd (Im [] w5) rC (.slice (some ⟨bm,0,none⟩) 1 1):=fM' hm ⟨rfl,⟨by simp,by simp⟩,⟨by simp,by simp⟩,⟨by simp,by simp⟩⟩;have hrJ:SV rNd (Im [] w5) rI (.slice (some ⟨bt,0,none⟩) 1 1):=fM' ht ⟨rfl,⟨by simp,by simp⟩,⟨by simp,by simp⟩,⟨by simp,by simp⟩⟩;have hrT:=wg' g3;obtain ⟨_,_,_,e0,i1,i2,i3⟩:=tY' (nat:=0) hN5 hrI;injection e0 with e0
 have e0':=congrArg Array.toList e0;simp at e0';obtain ⟨_,rfl,rfl,_,rfl⟩:=e0';refine ldN [iV 0,.slice none 0 0,.slice (some ⟨b11,0,none⟩) 1 1,iV 0,.slice none 0 0,.slice (some ⟨bm,0,none⟩) 1 1,.slice (some ⟨bt,0,none⟩) 1 1] rfl (bZ hp) ?_;refine ab' (iy' (w:=w5) (C:=Im [] w5) (Im.sub [] w5) (fun _ _ _ h=>h.hold) (x:=⟨BN rI 0,rC,rI⟩) ⟨_,_,_,_,_,rfl,i1,i2,i3,hrC,hrJ⟩ 9) ?_;rintro e w6 ⟨he,hk6⟩;rw [no'.1,no'.2] at he;obtain rfl:=he;have hp:=hp.kp hk6 (by simp);have g11:=g11.kp hk6 (by simp);refine lb hp ?_;refine ix 0 rfl (by omega) ?_;refine lb g11 ?_;refine st (b:=bp) (o:=6) hp (by simp) rfl fun w7 hp hs7 hk7=>?_;have hp:Bk w7.heap bp [iV 0,.slice none 0 0,.slice (some ⟨b11,0,none⟩) 1 1,iV 0,.slice none 0 0,.slice (some ⟨bm,0,none⟩) 1 1,.slice (some ⟨b3,0,none⟩) 2 2] 53:=hp;have l3:=k35.size;have s1:=hk1.size;have s2:=hk2.size;have s3:=hk3.size;have k17:Kp [bp] w5 w7:=(hk6.weak (by simp)).tq hk7;have k07:Kp [] w w7:=k05.trans k17 fun y hy hl=>by
  simp at hy;omega
 have lb3:=g3.lt;refine ldN [iV 0,.slice none 0 0,.slice (some ⟨b11,0,none⟩) 1 1,iV 0,.slice none 0 0,.slice (some ⟨bm,0,none⟩) 1 1,.slice (some ⟨b3,0,none⟩) 2 2] rfl (bZ hp) ?_;have z11:b11 < w1.heap.size:=l11;have hN7:uk' w7 b3 b7 b9 b11 (.slice (some ⟨b6,0,none⟩) 1 1):=⟨g3.kp k17 (by simp; omega),g7.kp k17 (by simp; omega),g9.kp k17 (by simp; omega),(g11.kp hk7 (by simp; omega))⟩
 have hrI7:SV rNd (Im [] w7) rI (.slice (some ⟨b6,0,none⟩) 1 1):=fM' (h6.kp k17 (by simp; omega)) ⟨rfl,⟨by simp,by simp⟩,⟨by simp,by simp⟩,⟨by simp,by simp⟩⟩;have zm:bm = w1.heap.size:=hbm;have hrC7:SV rNd (Im [] w7) rC (.slice (some ⟨bm,0,none⟩) 1 1):=fM' (hm.kp k17 (by simp; omega)) ⟨rfl,⟨by simp,by simp⟩,⟨by simp,by simp⟩,⟨by simp,by simp⟩⟩;obtain ⟨_,_,_,e0,i1,i2,i3⟩:=tY' (nat:=0) hN7 hrI7;injection e0 with e0
 have e0':=congrArg Array.toList e0;simp at e0';obtain ⟨_,rfl,rfl,_,rfl⟩:=e0';refine ab' (iy' (w:=w7) (C:=Im [] w7) (Im.sub [] w7) (fun _ _ _ h=>h.hold) (x:=⟨BN rI 0,rC,rT⟩) ⟨_,_,_,_,_,rfl,i1,i2,i3,hrC7,wg' hN7.1⟩ 9) ?_;rintro e w8 ⟨he,hk8⟩;rw [qp'.1,qp'.2] at he;obtain ⟨rfl,_⟩:=he;refine ab' (lY' w8) ?_;rintro e w9 ⟨⟨c3,c6,c7,c9,c11,rfl,hN9,g6,_⟩,hk9⟩;have hrI9:SV rNd (Im [] w9) rI (.slice (some ⟨c6,0,none⟩) 1 1):=fM' g6 ⟨rfl,⟨by simp,by simp⟩,⟨by simp,by simp⟩,⟨by simp,by simp⟩⟩;refine ab' (gW' (w:=w9) (C:=Im [] w9) (Im.sub [] w9) (fun _ _ _ h=>h.hold) (tY' (nat:=0) hN9 hrI9) 1) ?_;rintro e w10 ⟨he,hk10⟩;rw [sb'] at he;obtain ⟨v,u,rfl,hv,hu⟩:=he;obtain ⟨av,cv,rfl,_,_⟩:=hv;obtain ⟨au,cu,rfl,_,_⟩:=hu;have k010:=((k07.tr hk8).tr hk9).tr hk10;rw [qq'.1,qq'.2];exact ⟨rfl,k010⟩
end
section
variable {B B':BoT} {k n:Nat} {s:Int}
variable (hv:B'.vars = B.vars) (he:∀ i:Nat,i < k -> entD B' i = entD B i)
include hv he
end
def cutB (B:BoT) (n:Nat):BoT:={ vars:=B.vars,orders:=B.orders,ents:=B.ents.take n,nat:=-1,prims:=[] }
section
variable {B:BoT} {n:Nat}
end
def qs' (B:BoT) (fuel:Int):Except Int (Unit × Nat):=if as' B ≠ 0 then .error (as' B) else nM' B (ax' fuel)
def np' (B:BoT) (fuel:Int):Int:=if as' B ≠ 0 then 0 else kX' B (ax' fuel)
section
variable {w:World}
theorem tZ' {C:Mem} (hS:Sub C w) (hold:∀ b o v,C b o v -> b < w.heap.size) {B:BoT} {v:Value} (hv:BoV C B v) (fuel:Int) :
  CC 21 #[v,iV fuel] w (fun e w'=>AnR (np' B fuel) (qs' B fuel) e /\ Kp [] w w'):=by
 refine oF Tryz.func21 ?_;obtain ⟨RES,hRES⟩:∃ r,qs' B fuel = r:=⟨_,rfl⟩
 obtain ⟨AT,hAT⟩:∃ r,np' B fuel = r:=⟨_,rfl⟩
 rw [hRES,hAT];unfold qs' at hRES;unfold np' at hAT;have hbo:=hv;obtain ⟨v1,v2,v3,rfl,hO,hE,hP⟩:=hv;refine cO (args:=[_,_]) 24 [.tmp 4,.tmp 5,.tmp 6] τok Tryz.func21 ?_;refine new fun b2 w1 hb2 h2 hs1 hk1=>?_;have h2:Bk w1.heap b2 [iV B.vars,v1,v2,iV B.nat,v3] 26:=h2;refine ldN [iV B.vars,v1,v2,iV B.nat,v3] rfl (bZ h2) ?_;refine ab' (dL' (hS.tr hk1) (Kp.hold hk1 hold) hbo) ?_;rintro e w2 ⟨rfl,hk2⟩;have k02:=hk1.tr hk2;have h2:=h2.kp hk2 (by simp)
 by_cases g:as' B ≠ 0
 ·rw [if_pos g] at hRES hAT
  subst hRES hAT;refine ar' g ?_;exact ⟨⟨rfl,g⟩,k02⟩
 refine bf' g ?_;rw [if_neg g] at hRES hAT;have hR:as' B = 0:=Decidable.not_not.1 g;refine ab' (nn' fuel w2) ?_;rintro e w4 ⟨bg,rfl,hbg,hG4,hk4⟩;have k04:=k02.tr hk4;have l03:=k02.size;have hbl:=Bk.lt hG4;have up4:∀ b o v,C b o v -> Im [bg] w4 b o v:=fun b o v h=>⟨hS.tr k04 _ _ _ h,fun hm=>by
  have:=hold _ _ _ h;simp at hm;omega⟩
 have hX4:∀ b ∈ [bg],b < w4.heap.size:=fun b hb=>by
  obtain rfl:b = bg:=by simpa using hb
  exact hbl
 have h2:=h2.kp hk4 (by simp);refine ldN [iV B.vars,v1,v2,iV B.nat,v3] rfl (bZ h2) ?_;refine ab' (ix' (w:=w4) hR hX4 (by simp) hG4 (hbo.mono up4)) ?_;rintro e w5 ⟨he,k45⟩;have k05:Kp [] w w5:=k04.trans k45 fun y hy hl=>by
  simp at hy;omega
 unfold EtR at he;rw [hRES,hAT] at he;cases RES with
 | error e' =>
  obtain ⟨rfl,he',hG5⟩:=he;refine ab' (dM' hG5) ?_;rintro e w6 ⟨rfl,hk6⟩;exact ⟨⟨rfl,he'⟩,k05.tr hk6⟩
 | ok q =>
  obtain ⟨rfl,hG5⟩:=he;refine ab' (dM' hG5) ?_;rintro e w6 ⟨rfl,hk6⟩;exact ⟨rfl,k05.tr hk6⟩
end
def enD (ty bo:List Nd):EnT:={ kind:=2,sort:=[],params:=[],indices:=[],ctors:=[],type:=ty,body:=bo }
def KB:Nat -> BoT
 | 0=>BN rI 0
 | k + 1=>{ vars:=0,orders:=[],ents:=(KB k).ents ++ [enD (kT' 0) (tV' 0 (fb' (KB k) ((k + 1:Nat):Int)))],nat:=0,prims:=(KB k).prims ++ [(((k + 1:Nat):Int),((k + 1:Nat):Int))] }
def cY':Nat -> Tr
 | 0=>.mk ⟨10,0,0⟩ []
 | k + 1=>.mk ⟨6,0,0⟩ [.mk ⟨10,0,1⟩ [],cY' k]
def la' (id x y:Nat):Tr:=.mk ⟨6,0,0⟩ [.mk ⟨6,0,0⟩ [.mk ⟨8,(id:Int),0⟩ [],cY' x],cY' y]
def wantN (id x y:Nat):Nat:=if id = 2 then x * y else if id = 3 then x - y else x + y
def evN (id x y:Nat):Bool:=match gA' (KB 3) 64 [] (la' id x y) (ax' 5000) with
 | .ok q=>decide (row q.1 = row (cY' (wantN id x y)))
 | .error _=>false
theorem dY':as' (KB 3) = 0:=by kernel_rfl
theorem ua':∀ k:Nat,k < 3 -> gV' (KB k) ((k + 1:Nat):Int) = .ok (kT' 0,tV' 0 (fb' (KB k) ((k + 1:Nat):Int)))
 | 0,_=>by kernel_rfl
 | 1,_=>by kernel_rfl
 | 2,_=>by kernel_rfl
 | k + 3,h=>absurd h (by omega)
theorem vl' (id:Int) (h:id < 1 \/ 3 < id):gV' (BN rI 0) id = .error 1:=by
 unfold gV';rw [if_neg (by rw [show as' (BN rI 0) = 0 by kernel_rfl]; decide),if_pos h]
def okG (r:Except Int (Unit × Nat)):Bool:=match r with
 | .ok _=>true
 | .error _=>false
theorem vm':okG (qs' (KB 3) 2000) = true /\ np' (KB 3) 2000 = 4:=⟨by kernel_rfl,by kernel_rfl⟩
theorem ub':∃ n,qs' (KB 3) 2000 = .ok ((),n):=by
 have:=vm'.1;unfold okG at this;split at this
 ·rename_i q hq
  exact ⟨q.2,hq⟩
 ·cases this
theorem gY':∀ n:Nat,(row (cY' n)).length = 2 * n + 1
 | 0=>rfl
 | n + 1=>by
  have:=gY' n;simp [cY',row,rows,this];omega
theorem jE':bj' (KB 3) 4 (-1) ⟨10,0,0⟩ = true /\ bj' (KB 3) 4 (-1) ⟨10,0,1⟩ = true /\ (∀ id:Nat,1 <= id -> id <= 3 -> bj' (KB 3) 4 (-1) ⟨8,(id:Int),0⟩ = true):=by
 refine ⟨by kernel_rfl,by kernel_rfl,fun id h1 h3=>?_⟩
 match id,h1,h3 with
 | 1,_,_=>exact (by kernel_rfl:bj' (KB 3) 4 (-1) ⟨8,((1:Nat):Int),0⟩ = true)
 | 2,_,_=>exact (by kernel_rfl:bj' (KB 3) 4 (-1) ⟨8,((2:Nat):Int),0⟩ = true)
 | 3,_,_=>exact (by kernel_rfl:bj' (KB 3) 4 (-1) ⟨8,((3:Nat):Int),0⟩ = true)
 | k + 4,_,h=>omega
theorem fc':∀ n:Nat,n <= 1000 -> Ft (QB (KB 3)) 0 (cY' n)
 | 0,_=>gI' (by decide) (.inr rfl) jE'.1
 | n + 1,h=>by
  have h1:=fc' n (by omega);have hc:Ft (QB (KB 3)) 0 (.mk ⟨10,0,1⟩ []):=gI' (by decide) (.inr rfl) jE'.2.1;exact Ft.apply (qk _) hc (ys:=[cY' n]) (fun y hy=>by
   obtain rfl:y = cY' n:=by simpa using hy
   exact h1) (by
   have:=gY' (n + 1);show (row (cY' (n + 1))).length <= 4096;omega)
theorem lZ' {id x y:Nat} (h1:1 <= id) (h3:id <= 3) (hx:x <= 100) (hy:y <= 100):Ft (QB (KB 3)) 0 (.mk ⟨8,(id:Int),0⟩ []) /\ Ft (QB (KB 3)) 0 (la' id x y) /\ ak' (.mk ⟨8,(id:Int),0⟩ []) [cY' x,cY' y] = la' id x y /\ (row (la' id x y)).length <= 4096:=by
 have hc:Ft (QB (KB 3)) 0 (.mk ⟨8,(id:Int),0⟩ []):=Ft.one (by simp [ah',inR]; omega) (by simp) (by simp) (by simp) (by simp [aw']) (jE'.2.2 id h1 h3) fun h=>by simp at h
 have hl:(row (la' id x y)).length <= 4096:=by
  have e1:=gY' x;have e2:=gY' y;simp [la',row,rows];omega
 refine ⟨hc,Ft.apply (qk _) hc (ys:=[cY' x,cY' y]) (fun z hz=>?_) hl,rfl,hl⟩;simp only [List.mem_cons,List.not_mem_nil,or_false] at hz;rcases hz with rfl | rfl
 ·exact fc' x (by omega)
 ·exact fc' y (by omega)
section
variable {B:BoT} {w:World} {X:List Nat}
theorem sc' (hB:GoodB B) {x:Tr} {fuel:Int} {v vb:Value} {g:Nat} {q:Tr × Nat} (hX:XL X w) (hx:Ft (QB B) 0 x) (hb:BoV (Im X w) B vb) (hv:TmV (Im X w) x v) (hq:gA' B g [] x (ax' fuel) = .ok q) :
  CC 61 #[vb,.slice none 0 0,v,iV fuel] w (fun e w'=>(∃ u,e = .returned (.tuple #[u,iV (q.2:Int),iV 0]) /\ TmV (Im X w') q.1 u) /\ Kp [] w w'):=by
 refine oF Tryz.func61 ?_;have hbb:=hb;obtain ⟨v1,v2,v3,rfl,hb1,hb2,hb3⟩:=hbb;obtain ⟨av,cv,rfl,_,_⟩:=id hv;have hn0:CxOk B []:=fun i q hq=>by simp at hq
 refine cO (args:=[_,_,_,_]) 20 [.tmp 8,.tmp 9,.tmp 10] τok Tryz.func61 ?_;refine new fun b4 w1 hb4 h4 hs1 hk1=>?_;have h4:Bk w1.heap b4 [iV B.vars,v1,v2,iV B.nat,v3] 26:=h4;refine new fun b6 w2 hb6 h6 hs2 hk2=>?_;have h6:Bk w2.heap b6 [.slice av (row x).length cv] 35:=h6;have h4:=h4.kp hk2 (by simp);have k02:=hk1.tr hk2;have hX2:=xU hX k02;refine ldN [iV B.vars,v1,v2,iV B.nat,v3] rfl (bZ h4) ?_;refine lb h6 ?_;have up:∀ b o v,Im X w b o v -> Im X w2 b o v:=fun b o v h=>h.tr k02;refine ab' (mH' (fid:=86) (cx:=[]) (.ok q) hX2 (hb.mono up) (SV.nil _ _) h6 (hv.mono up) (hv.mono up) fun bm Y w hY hbm hM hbt hv=>?_) ?_
 ·refine oF Tryz.func86 ?_
  obtain ⟨u1,u2,u3,u4,hM⟩:=hM;refine cO (args:=[_,_]) 7 [.tmp 3] τok Tryz.func86 ?_;refine lb hbt ?_;refine ab' (tq' hB hn0 (by simp) g Y w bm x _ _ q hY hbm hM hx (by unfold ax'; omega) hv hq) ?_;rintro e w' ⟨⟨u,rfl,hT,hMb⟩,hk⟩;have up:∀ b o v,Im Y w b o v -> Im Y w' b o v:=fun b o v h=>h.kp hk fun y hy _=>by
   obtain rfl:y = bm:=by simpa using hy
   exact hbm
  exact ⟨⟨u,rfl,hT.tv hY,_,_,_,_,hMb,hM.2.1.mono up,hM.2.2.1.mono up,hM.2.2.2.1.mono up,hM.2.2.2.2.mono up⟩,hk⟩
 rintro e w3 ⟨⟨z,rfl,hz⟩,hk3⟩;exact ⟨⟨_,rfl,hz⟩,k02.tr hk3⟩
theorem jF' (hB:GoodB B) {x:Tr} {fuel:Int} {v vb:Value} {g:Nat} {q:Tr × Nat} (hX:XL X w) (hx:Ft (QB B) 0 x) (hf:nJ' B [] (row x) = 0) (hb:BoV (Im X w) B vb) (hv:TmV (Im X w) x v) (hq:gA' B g [] x (ax' fuel) = .ok q) :
  CC 26 #[vb,.slice none 0 0,v,iV fuel] w (fun e w'=>(∃ u,e = .returned (.tuple #[u,iV (q.2:Int),iV 0]) /\ TmV (Im X w') q.1 u) /\ Kp [] w w'):=by
 refine oF Tryz.func26 ?_;have hbb:=hb;obtain ⟨v1,v2,v3,rfl,_,_,_⟩:=hbb;obtain ⟨av,cv,rfl,_,_⟩:=id hv;have hrun:∀ w0,Kp [] w w0 -> CC 60 #[.func (.func 61) #[] #[],.agg #[iV B.vars,v1,v2,iV B.nat,v3],.slice none 0 0,.slice av (row x).length cv,iV fuel] w0 (fun e w'=>(∃ u,e = .returned (.tuple #[u,iV (q.2:Int),iV 0]) /\ TmV (Im X w') q.1 u) /\ Kp [] w0 w'):=fun w0 k0=>by
  refine oF Tryz.func60 ?_;refine cO (args:=[_,_,_,_,_]) 30 [.tmp 10,.tmp 11,.tmp 12] τok Tryz.func60 ?_;refine new fun b4 w1 hb4 h4 hs1 hk1=>?_;have h4:Bk w1.heap b4 [iV B.vars,v1,v2,iV B.nat,v3] 26:=h4;have up1:∀ b o v,Im X w b o v -> Im X w1 b o v:=fun b o v h=>h.tr (k0.tr hk1);refine ldN [iV B.vars,v1,v2,iV B.nat,v3] rfl (bZ h4) ?_;have hfc:=rR' (B:=B) (c:=[]) (t:=row x) (Im.sub X w1) (fun _ _ _ h=>h.hold) (hb.mono up1) (SV.nil _ _) (hv.mono up1);rw [hf] at hfc;refine ab' hfc ?_;rintro e w2 ⟨rfl,hk2⟩;have k02:=hk1.tr hk2;have h4:=h4.kp hk2 (by simp);have up2:∀ b o v,Im X w b o v -> Im X w2 b o v:=fun b o v h=>h.tr (k0.tr k02);have hX2:XL X w2:=fun b hb=>Nat.lt_of_lt_of_le (hX b hb) (k0.tr k02).size;refine ldN [iV B.vars,v1,v2,iV B.nat,v3] rfl (bZ h4) ?_;refine ab' (sc' (fuel:=fuel) hB hX2 hx (hb.mono up2) (hv.mono up2) hq) ?_;rintro e w3 ⟨⟨u,rfl,hu⟩,hk3⟩;exact ⟨⟨u,rfl,hu⟩,k02.tr hk3⟩
 refine cO (args:=[_,_,_,_]) 19 [.tmp 8,.tmp 9,.tmp 10] τok Tryz.func26 ?_;refine new fun b4 w1 hb4 h4 hs1 hk1=>?_;have h4:Bk w1.heap b4 [iV B.vars,v1,v2,iV B.nat,v3] 26:=h4;refine ldN [iV B.vars,v1,v2,iV B.nat,v3] rfl (bZ h4) ?_;refine ab' (hrun w1 hk1) ?_;rintro e w3 ⟨⟨u,rfl,hu⟩,hk3⟩;exact ⟨⟨u,rfl,hu⟩,hk1.tr hk3⟩
end
theorem vn' {α:Type} {R:Rd α} {C:Mem} {b:Nat} {x:α} {cs:List Value} (hb:∀ j v,cs[j]? = some v -> C b j v) (hd:R.den C cs x):SV R C [x] (.slice (some ⟨b,0,none⟩) 1 1):=by
 refine ⟨_,_,rfl,⟨by simp,.inr ⟨b,0,rfl,fun i y hy=>?_⟩⟩,by simp⟩
 match i,hy with
 | 0,hy =>
  obtain rfl:x = y:=by simpa using hy
  refine ⟨cs,hd,fun j v hj=>?_⟩;rw [Nat.zero_mul,Nat.add_zero,Nat.zero_add];exact hb j v hj
 | i + 1,hy=>simp at hy
theorem vp' {α:Type} {R:Rd α} {C:Mem} {b:Nat} {x y:α} {cs ds:List Value} (hb:∀ j v,(cs ++ ds)[j]? = some v -> C b j v) (hd:R.den C cs x) (he:R.den C ds y):SV R C [x,y] (.slice (some ⟨b,0,none⟩) 2 2):=by
 have hl:=R.len hd;refine ⟨_,_,rfl,⟨by simp,.inr ⟨b,0,rfl,fun i z hz=>?_⟩⟩,by simp⟩
 match i,hz with
 | 0,hz =>
  obtain rfl:x = z:=by simpa using hz
  refine ⟨cs,hd,fun j v hj=>?_⟩;rw [Nat.zero_mul,Nat.add_zero,Nat.zero_add];exact hb j v (by rw [List.getElem?_append_left (ai' hj)]; exact hj)
 | 1,hz =>
  obtain rfl:y = z:=by simpa using hz
  refine ⟨ds,he,fun j v hj=>?_⟩;rw [Nat.one_mul,Nat.zero_add];exact hb _ v (by rw [List.getElem?_append_right (by omega),hl,Nat.add_sub_cancel_left]; exact hj)
 | i + 2,hz=>simp at hz
theorem uc' {w:World} {C:Mem} {b3 b6 b7 b9 b11:Nat} (h:uk' w b3 b7 b9 b11 (.slice (some ⟨b6,0,none⟩) 1 1)) (h6:Bk w.heap b6 [iV 9,iV 0,iV 0] 43)
  (hC:∀ b o v,b = b3 \/ b = b6 \/ b = b7 \/ b = b9 -> Cu w.heap b o v -> C b o v):rEn.den C [iV 1,.slice (some ⟨b3,0,none⟩) 2 2,.slice none 0 0,.slice none 0 0,.slice (some ⟨b9,0,none⟩) 2 2,.slice none 0 0,.slice none 0 0] (enB rI):=by
 obtain ⟨h3,h7,h9,_⟩:=h;have n3:∀ op a b:Int,I64 op -> I64 a -> I64 b -> rNd.den C [iV op,iV a,iV b] ⟨op,a,b⟩:=fun op a b h1 h2 h3=>⟨rfl,h1,h2,h3⟩
 have k6:SV rNd C rI (.slice (some ⟨b6,0,none⟩) 1 1):=vn' (fun j v hj=>hC _ _ _ (by simp) (h6.cu hj)) (n3 9 0 0 (by constructor <;> omega) (by constructor <;> omega) (by constructor <;> omega));have k3:SV rNd C rT (.slice (some ⟨b3,0,none⟩) 2 2):=vp' (cs:=[iV 2,iV 1,iV 1]) (ds:=[iV 3,iV 0,iV 0]) (fun j v hj=>hC _ _ _ (by simp) (h3.cu hj)) (n3 2 1 1 (by constructor <;> omega) (by constructor <;> omega) (by constructor <;> omega)) (n3 3 0 0 (by constructor <;> omega) (by constructor <;> omega) (by constructor <;> omega));obtain ⟨a6,c6,e6,h61,h62⟩:=k6;have k7:SV (rSk rNd) C [rI] (.slice (some ⟨b7,0,none⟩) 1 1):=vn' (fun j v hj=>hC _ _ _ (by simp) (h7.cu hj)) ⟨a6,c6,by rw [<- e6],h62,h61⟩;refine ⟨_,_,_,_,_,_,rfl,by constructor <;> simp [enB],k3,SV.nil _ _,SV.nil _ _,?_,SV.nil _ _,SV.nil _ _⟩;exact vp' (cs:=[.slice none 0 0,.slice none 0 0]) (ds:=[.slice (some ⟨b7,0,none⟩) 1 1,.slice none 0 0]) (fun j v hj=>hC _ _ _ (by simp) (h9.cu hj)) ⟨_,_,rfl,SV.nil _ _,SV.nil _ _⟩ ⟨_,_,rfl,k7,SV.nil _ _⟩
theorem bd' (n:Nat) (hn:n <= 100) (w:World) :
  CC 25 #[iV (n:Int)] w (fun e w'=>∃ u,e = .returned u /\ IsTm (cY' n) w w' u /\ Kp [] w w'):=by
 refine oF Tryz.func25 ?_;refine cO (args:=[_]) 18 [.tmp 2] τok Tryz.func25 ?_;refine fill [iV 10,iV 0,iV 0] rfl ?_;refine new fun b1 w1 hb1 h1 hs1 hk1=>?_;have i0:I64 0:=by constructor <;> omega
 have hO1:Own rNd 43 w.heap.size w1 (.slice (some ⟨b1,0,none⟩) 1 1) (row (cY' 0)):=⟨⟨[[iV 10,iV 0,iV 0]],fw' (n:=1) h1 (by omega) rfl (by simp [maxLen]),⟨rfl,by constructor <;> simp,i0,i0⟩,trivial⟩,hk1.size⟩
 refine lp τok (σ:=Nat × Value) (fun q=>[(0,iV (n:Int)),(3,q.2),(4,iV (q.1:Int))]) (fun q w'=>q.1 <= n /\ Own rNd 43 w.heap.size w' q.2 (row (cY' q.1)) /\ Kp [] w w') (fun q=>n - q.1) (0,_) rfl ⟨rfl,rfl,rfl,trivial⟩ ⟨Nat.zero_le _,hO1,hk1⟩ ?_;rintro ⟨i,v⟩ w2 ⟨hi,hO,hk⟩;simp only at hi hO;have hl:=gY' i;refine ac' (fun g=>?_) (fun g=>?_)
 ·have g:(i:Int) < n:=g
  refine fill [iV 6,iV 0,iV 0,iV 10,iV 0,iV 1] rfl ?_;refine new fun b3 w3 hb3 h3 hs3 hk3=>?_;have hO3:Own rNd 43 w.heap.size w3 (.slice (some ⟨b3,0,none⟩) 2 2) [⟨6,0,0⟩,⟨10,0,1⟩]:=⟨⟨[[iV 6,iV 0,iV 0],[iV 10,iV 0,iV 1]],fw' (n:=2) h3 (by have:=hk.size; omega) rfl (by simp [maxLen]),⟨rfl,by constructor <;> simp,i0,i0⟩,⟨rfl,by constructor <;> simp,i0,by constructor <;> simp⟩,trivial⟩,(hk.tr hk3).size⟩
  obtain ⟨a,c,rfl,hs⟩:=(hO.kp hk3).den (by omega);refine hO3.apF τok rfl rfl (by decide) bV' (New.sub _ _) (row (cY' i)) hs (by simp; omega) (by simp [maxLen]; omega) fun v4 w4 hO4 hk4 _=>?_;refine i6 ?_;refine ⟨(i + 1,v4),by simp only; omega,rfl,⟨rfl,rfl,rfl,trivial⟩,by show i + 1 <= n; omega,?_,(hk.tr hk3).own hk4 hO3⟩
  simpa [cY',row,rows] using hO4
 ·have g:¬ (i:Int) < n:=g
  obtain rfl:i = n:=by omega
  exact ⟨_,rfl,Own.isTm hO (by omega),hk⟩
def rC7:Rd (List Value) where
 sz:=7
 den _ cs x:=cs = x /\ x.length = 7 /\ ∀ v ∈ x,v.oneCell' = true
 len:=by rintro _ cs x ⟨rfl,h,_⟩; exact h
 mono:=by rintro _ _ cs x _ h; exact h
 one:=by rintro _ cs x ⟨rfl,_,h⟩ u hu; exact h u hu
theorem qt':uh' rC7:=fun _ _ _ _ h=>h
def Dx (g:List Nat) (w:World):Mem:=fun b o t=>Cu w.heap b o t /\ b ∉ g
theorem Dx.up {g g' Y:List Nat} {w w':World} (k:Kp Y w w') (hY:∀ y ∈ Y,y ∈ g) (hg:∀ y ∈ g',y ∈ g \/ w.heap.size <= y) {b o:Nat} {t:Value} (h:Dx g w b o t):Dx g' w' b o t:=by
 refine ⟨h.1.kp k fun hb=>h.2 (hY b hb),fun hb=>?_⟩;rcases hg b hb with h1 | h1
 ·exact h.2 h1
 ·have:=h.1.lt
  omega
theorem vq' {e lo:Nat} {w:World} {v:Value} {raws:List (List Value)} {ents:List EnT} {C:Mem} (hO:Own rC7 e lo w v raws) (hl:raws.length <= 1000) (hC:∀ b o u,New lo w b o u -> C b o u) (h:All2 (rEn.den C) raws ents):SV rEn C ents v:=by
 have hlen:=h.length;obtain ⟨a,c,rfl,hc⟩:=hO.cap;obtain ⟨a',c',e1,hs⟩:=hO.den (by omega);injection e1 with q1 q2 q3
 subst q1 q3;refine ⟨a,c,by rw [hlen],⟨by omega,?_⟩,by omega⟩;rcases hs.2 with h0 | ⟨b,o,ha,hcell⟩
 ·exact .inl (by omega)
 ·refine .inr ⟨b,o,ha,fun i x hi=>?_⟩
  obtain ⟨raw,hr,hd⟩:=h.get hi;obtain ⟨cs,⟨rfl,_,_⟩,hcs⟩:=hcell i raw hr;exact ⟨_,hd,fun j u hj=>hC _ _ _ (hcs j u hj)⟩
def obs (v:Value):List Nat:=v.ownBlock.toList
structure Gb (w0 w:World) (b9:Nat) (k:Nat) (ve vp:Value) (raws:List (List Value)):Prop where
 bk:Bk w.heap b9 [iV 0,.slice none 0 0,ve,iV 0,vp] 26
 oe:Own rC7 39 w0.heap.size w ve raws
 op:Own rPr 63 w0.heap.size w vp (KB k).prims
 al:All2 (rEn.den (Dx (b9 :: (obs ve ++ obs vp)) w)) raws (KB k).ents
 ne:b9 ∉ obs ve
 np:b9 ∉ obs vp
 ep:∀ g ∈ obs ve,g ∉ obs vp
 lo:w0.heap.size <= b9
 k0:Kp [] w0 w
theorem lb':∀ k,(KB k).ents.length = k + 1 /\ (KB k).prims.length = k /\ (KB k).vars = 0 /\ (KB k).orders = [] /\ (KB k).nat = 0
 | 0=>⟨rfl,rfl,rfl,rfl,rfl⟩
 | k + 1=>by
  obtain ⟨h1,h2,_⟩:=lb' k;exact ⟨by simp [KB,h1],by simp [KB,h2],rfl,rfl,rfl⟩
section
variable {w0 w w':World} {b9 k:Nat} {ve vp:Value} {raws:List (List Value)}
theorem Gb.len (h:Gb w0 w b9 k ve vp raws):raws.length = k + 1:=by
 rw [h.al.length,(lb' k).1]
theorem Gb.bo (h:Gb w0 w b9 k ve vp raws) (hk:k <= 100):BoV (Im [] w) (KB k) (.agg #[iV 0,.slice none 0 0,ve,iV 0,vp]):=by
 obtain ⟨l1,l2,e1,e2,e3⟩:=lb' k;have hl:=h.len;refine ⟨.slice none 0 0,ve,vp,by rw [e1,e3],by rw [e2]; exact SV.nil _ _,vq' h.oe (by omega) (fun b o u h=>⟨h.2.cl,by simp⟩) (h.al.mono fun cs x hd=>rEn.mono (fun b o u h=>⟨h.1.cl,by simp⟩) hd),?_⟩;obtain ⟨a,c,hv,hc⟩:=h.op.cap;obtain ⟨a',c',e4,hs⟩:=h.op.den (by omega);rw [hv] at e4;injection e4 with q1 q2 q3
 subst q1 q3;exact ⟨a,c,hv,hs.mono fun b o u h=>⟨h.2.cl,by simp⟩,hc⟩
theorem Gb.kp (h:Gb w0 w b9 k ve vp raws) (kk:Kp [] w w'):Gb w0 w' b9 k ve vp raws :=
 ⟨h.bk.kp kk (by simp),h.oe.kp kk,h.op.kp kk,h.al.mono fun cs x hd=>rEn.mono (fun b o u h=>h.up kk (by simp) fun y hy=>.inl hy) hd,h.ne,h.np,h.ep,h.lo,h.k0.tr kk⟩
end
theorem remB {P:Program} {t:TypeId} {x y:Nat} (z:Nat) (hy:0 < y) (hz:x % y = z) {k:Value -> World -> Prop} {w:World} (h:k (.int .u8 (z:Int)) w):EvRun P (binOp .rem t (.int .u8 (x:Int)) (.int .u8 (y:Int))) w k:=by
 subst hz;refine run ?_ h;simp [binOp_rem,Op.intDiv,Int.tmod_eq_emod_of_nonneg (Int.natCast_nonneg x),show ¬ y = 0 by omega]
theorem bx' {v:Value} {g:Nat}:g ∈ obs v ↔ v.ownBlock = some g:=by simp [obs]
theorem jG' (hev:∀ {id x y:Nat},1 <= id -> id <= 3 -> x < 8 -> y < 8 -> ∃ q,gA' (KB 3) 64 [] (la' id x y) (ax' 5000) = .ok q /\ row q.1 = row (cY' (wantN id x y))) (a b:Nat) (ha:a <= 255) (hb:b <= 255) (id:Int) (hid:I64 id) (w:World) :
  CC 9 #[.int .u8 (a:Int),.int .u8 (b:Int),iV id] w (fun e w'=>e = .returned (.bool true) /\ Kp [] w w'):=by
 refine oF Tryz.func9 ?_;refine cO (args:=[_,_,_]) 137 [.tmp 6] τok Tryz.func9 ?_;refine ab' (qr' w) ?_;rintro e w1 ⟨rfl,hk1⟩;obtain ⟨x,hx⟩:∃ x,a % 8 = x:=⟨_,rfl⟩
 obtain ⟨y,hy⟩:∃ y,b % 8 = y:=⟨_,rfl⟩
 refine remB (y:=8) x (by omega) hx ?_;refine i6 ?_;refine remB (y:=8) y (by omega) hy ?_;refine i6 ?_;refine ab' (lY' w1) ?_;rintro e w2 ⟨⟨b3,b6,b7,b9,b11,rfl,hN,h6,z3,z6,z7,z9,z11⟩,hk2⟩;have k02:=hk1.tr hk2;refine new fun bk w3 hbk hB hs3 hk3=>?_;refine stN (vs:=[iV 0,.slice none 0 0,.slice (some ⟨b11,0,none⟩) 1 1,iV 0,.slice none 0 0]) hB rfl (by simp [Value.oneCell']) fun w4 hB hs4 hk4=>?_;have k24:=hk3.newSt hbk hk4;have k04:=k02.tr k24;have l1:=hk1.size;have l11:=hN.2.2.2.lt;have hN4:uk' w4 b3 b7 b9 b11 (.slice (some ⟨b6,0,none⟩) 1 1):=⟨hN.1.kp k24 (by simp),hN.2.1.kp k24 (by simp),hN.2.2.1.kp k24 (by simp),hN.2.2.2.kp k24 (by simp)⟩
 have h64:=h6.kp k24 (by simp);have hone:∀ v ∈ [iV 1,.slice (some ⟨b3,0,none⟩) 2 2,.slice none 0 0,.slice none 0 0,.slice (some ⟨b9,0,none⟩) 2 2,.slice none 0 0,.slice none 0 0],v.oneCell' = true:=fun v hv=>by
  simp at hv;rcases hv with rfl | rfl | rfl | rfl | rfl | rfl | rfl <;> rfl
 have G0:Gb w w4 bk 0 (.slice (some ⟨b11,0,none⟩) 1 1) (.slice none 0 0) [[iV 1,.slice (some ⟨b3,0,none⟩) 2 2,.slice none 0 0,.slice none 0 0,.slice (some ⟨b9,0,none⟩) 2 2,.slice none 0 0,.slice none 0 0]]:=by
  have o1:obs (.slice (some ⟨b11,0,none⟩) 1 1) = [b11]:=rfl;have o2:obs (.slice none 0 0) = []:=rfl;refine ⟨hB,⟨⟨[[iV 1,.slice (some ⟨b3,0,none⟩) 2 2,.slice none 0 0,.slice none 0 0,.slice (some ⟨b9,0,none⟩) 2 2,.slice none 0 0,.slice none 0 0]],fw' (n:=1) hN4.2.2.2 (by omega) rfl (by simp [maxLen]),⟨rfl,rfl,hone⟩,trivial⟩,k04.size⟩,Own.nil _ _ k04.size,⟨uc' hN4 h64 fun b o v hb hc=>⟨hc,?_⟩,trivial⟩,?_,?_,?_,by have:=k02.size; omega,k04⟩
  ·rw [o1,o2]
   simp;rcases hb with rfl | rfl | rfl | rfl <;> omega
  ·rw [o1]; simp; omega
  ·rw [o2]; simp
  ·rw [o2]; simp
 refine ac' (fun g1=>?_) (fun g1=>?_)
 ·have g1:id < 1:=g1
  refine ldN [iV 0,.slice none 0 0,.slice (some ⟨b11,0,none⟩) 1 1,iV 0,.slice none 0 0] rfl (bZ hB) ?_;have hp:=gW' (Im.sub [] w4) (fun _ _ _ h=>h.hold) (G0.bo (by omega)) id;rw [show KB 0 = BN rI 0 from rfl,vl' id (.inl g1)] at hp;refine ab' hp ?_;rintro e w5 ⟨⟨rfl,_⟩,hk5⟩;exact ⟨rfl,k04.tr hk5⟩
 have g1:¬ id < 1:=g1;refine ac' (fun g3=>?_) (fun g3=>?_)
 ·have g3:3 < id:=g3
  refine ldN [iV 0,.slice none 0 0,.slice (some ⟨b11,0,none⟩) 1 1,iV 0,.slice none 0 0] rfl (bZ hB) ?_;have hp:=gW' (Im.sub [] w4) (fun _ _ _ h=>h.hold) (G0.bo (by omega)) id;rw [show KB 0 = BN rI 0 from rfl,vl' id (.inr g3)] at hp;refine ab' hp ?_;rintro e w5 ⟨⟨rfl,_⟩,hk5⟩;exact ⟨rfl,k04.tr hk5⟩
 have g3:¬ 3 < id:=g3;obtain ⟨d,rfl⟩:∃ d:Nat,id = (d:Int):=⟨id.toNat,by omega⟩
 refine lp τok (σ:=Nat × Value × Value × List (List Value)) (fun q=>[(2,iV (d:Int)),(7,iV (x:Int)),(8,iV (y:Int)),(9,pt bk),(13,iV ((q.1 + 1:Nat):Int))])
  (fun q w'=>q.1 <= 3 /\ Gb w w' bk q.1 q.2.1 q.2.2.1 q.2.2.2) (fun q=>3 - q.1) (0,_,_,_) rfl ⟨rfl,rfl,rfl,rfl,rfl,trivial⟩ ⟨by omega,G0⟩ ?_
 rintro ⟨k,ve,vp,raws⟩ w5 ⟨hk,G⟩;simp only at hk G;obtain ⟨ae,ce,rfl,_⟩:=id G.oe.cap;obtain ⟨ap,cp,rfl,_⟩:=id G.op.cap;refine ac' (fun g=>?_) (fun g=>?_)
 ·have g:((k + 1:Nat):Int) <= 3:=g
  obtain ⟨l1,l2,e1,e2,e3⟩:=lb' k;have hrl:=G.len;refine ldN [iV 0,.slice none 0 0,.slice ae raws.length ce,iV 0,.slice ap (KB k).prims.length cp] rfl (bZ G.bk) ?_;have hp:=gW' (Im.sub [] w5) (fun _ _ _ h=>h.hold) (G.bo (by omega)) ((k + 1:Nat):Int);obtain ⟨ty,bo,hpr,hty,hbo⟩:∃ ty bo,gV' (KB k) ((k + 1:Nat):Int) = .ok (ty,bo) /\ ty = kT' 0 /\ bo = tV' 0 (fb' (KB k) ((k + 1:Nat):Int)):=⟨_,_,ua' k (by omega),rfl,rfl⟩
  rw [hpr] at hp;refine ab' hp ?_;rintro e w6 ⟨⟨vt,vu,rfl,hvt,hvu⟩,hk6⟩;obtain ⟨at1,ct1,rfl,_,_⟩:=id hvt;obtain ⟨au1,cu1,rfl,_,_⟩:=id hvu;have G6:=G.kp hk6;refine ld (Cl.cell (G6.bk.cl rfl)) ?_;obtain ⟨raw,hraw⟩:∃ raw,raw = [iV 2,.slice none 0 0,.slice none 0 0,.slice none 0 0,.slice none 0 0,.slice at1 ty.length ct1,.slice au1 bo.length cu1]:=⟨_,rfl⟩
  refine fill [iV 2,.slice none 0 0,.slice none 0 0,.slice none 0 0,.slice none 0 0,.slice at1 ty.length ct1,.slice au1 bo.length cu1] rfl ?_;refine new fun b7' w7 hb7 h7 hs7 hk7=>?_;have G7:=G6.kp hk7;have hkb:=G7.bk.lt;have hraw1:rC7.den (Dn w.heap.size (.slice ae raws.length ce) w7) raw raw:=⟨rfl,by rw [hraw]; rfl,fun v hv=>by
   rw [hraw] at hv;simp at hv;rcases hv with rfl | rfl | rfl | rfl | rfl | rfl | rfl <;> rfl⟩
  refine G7.oe.ap1 τok rfl rfl (by decide) raw raw hraw1 (fun j u hj=>by rw [Nat.zero_add]; rw [hraw] at hj; exact h7.cl hj) (by omega) (by unfold maxLen; omega) fun v8 w8 hE8 hk8 hown=>?_;have hY8:∀ y ∈ obs (.slice ae raws.length ce),y ≠ bk:=fun y hy he=>G.ne (he ▸ hy);have hB8:=G7.bk.kp hk8 G.ne;refine st (b:=bk) (o:=2) hB8 (by simp) (SV.one (R:=rC7) (C:=New w.heap.size w8) (by
   obtain ⟨a,c,e,hs⟩:=hE8.den (by simp; omega);obtain ⟨a',c',e',hc⟩:=hE8.cap;rw [e] at e';injection e' with q1 q2 q3
   subst q1 q3;exact ⟨a,c,e,hs,hc⟩)) fun w9 hB9 hs9 hk9=>?_
  have hB9:Bk w9.heap bk [iV 0,.slice none 0 0,v8,iV 0,.slice ap (KB k).prims.length cp] 26:=hB9;have so8:∀ y ∈ obs v8,y ∈ obs (.slice ae raws.length ce) \/ y = w7.heap.size:=fun y hy=>by
   rw [bx'] at hy;rcases hown with h | h
   ·exact .inl (by rw [bx',<- h]; exact hy)
   ·rw [h] at hy
    injection hy with hy
    exact .inr hy.symm
  have lve:∀ y ∈ obs (.slice ae raws.length ce),y < w7.heap.size:=fun y hy=>(G7.oe.block y (bx'.1 hy)).2;have lvp:∀ y ∈ obs (.slice ap (KB k).prims.length cp),y < w7.heap.size:=fun y hy=>(G7.op.block y (bx'.1 hy)).2;have hP8:Own rPr 63 w.heap.size w8 (.slice ap (KB k).prims.length cp) (KB k).prims:=Own.kpG G7.op (fun _ _ _ _ h=>h) hk8 fun g hg hx=>G.ep g (by simpa [obs] using hx) (bx'.2 hg);have hP9:Own rPr 63 w.heap.size w9 (.slice ap (KB k).prims.length cp) (KB k).prims:=Own.kpG hP8 (fun _ _ _ _ h=>h) hk9 fun g hg hx=>by
   obtain rfl:g = bk:=by simpa using hx
   exact G.np (bx'.2 hg)
  have n8:bk ∉ obs v8:=fun h=>by
   rcases so8 _ h with h | h
   ·exact G.ne h
   ·omega
  have hE9:Own rC7 39 w.heap.size w9 v8 (raws ++ [raw]):=Own.kpG hE8 qt' hk9 fun g hg hx=>by
   obtain rfl:g = bk:=by simpa using hx
   exact n8 (bx'.2 hg)
  refine lb hB9 ?_;refine fill [iV ((k + 1:Nat):Int),iV ((k + 1:Nat):Int)] rfl ?_;refine new fun b10 w10 hb10 h10 hs10 hk10=>?_;have i1:I64 ((k + 1:Nat):Int):=by constructor <;> omega
  refine (hP9.kp hk10).ap1 τok rfl rfl (by decide) (((k + 1:Nat):Int),((k + 1:Nat):Int)) [iV ((k + 1:Nat):Int),iV ((k + 1:Nat):Int)] ⟨rfl,i1,i1⟩ (bZ h10) (by omega) (by unfold maxLen; omega) fun v11 w11 hP11 hk11 hown11=>?_;have so11:∀ y ∈ obs v11,y ∈ obs (.slice ap (KB k).prims.length cp) \/ y = w10.heap.size:=fun y hy=>by
   rw [bx'] at hy;rcases hown11 with h | h
   ·exact .inl (by rw [bx',<- h]; exact hy)
   ·rw [h] at hy
    injection hy with hy
    exact .inr hy.symm
  have m8:=hk8.size;have m9:=hk9.size;have m10:=hk10.size;have hE10:=hE9.kp hk10;have l8:∀ y ∈ obs v8,y < w10.heap.size:=fun y hy=>(hE10.block y (bx'.1 hy)).2;have e8:∀ y ∈ obs v8,y ∉ obs (.slice ap (KB k).prims.length cp):=fun y hy hp=>by
   rcases so8 y hy with h | h
   ·exact G.ep y h hp
   ·have:=lvp y hp
    omega
  have hE11:Own rC7 39 w.heap.size w11 v8 (raws ++ [raw]):=Own.kpG hE10 qt' hk11 fun g hg hx=>e8 g (bx'.2 hg) (by simpa [obs] using hx);have hB11:=(hB9.kp hk10 (by simp)).kp hk11 (by simpa [obs] using G.np);refine st (b:=bk) (o:=4) hB11 (by simp) (SV.one (R:=rPr) (C:=New w.heap.size w11) (by
   obtain ⟨a,c,e,hs⟩:=hP11.den (by simp; omega);obtain ⟨a',c',e',hc⟩:=hP11.cap;rw [e] at e';injection e' with q1 q2 q3
   subst q1 q3;exact ⟨a,c,e,hs,hc⟩)) fun w12 hB12 hs12 hk12=>?_
  have n11:bk ∉ obs v11:=fun h=>by
   rcases so11 _ h with h | h
   ·exact G.np h
   ·omega
  have e11:∀ y ∈ obs v8,y ∉ obs v11:=fun y hy hp=>by
   rcases so11 y hp with h | h
   ·exact e8 y hy h
   ·have:=l8 y hy
    omega
  have up:∀ b o t,Dx (bk :: (obs (.slice ae raws.length ce) ++ obs (.slice ap (KB k).prims.length cp))) w7 b o t -> Dx (bk :: (obs v8 ++ obs v11)) w12 b o t:=fun b o t h=>by
   have h8:Dx (bk :: (obs v8 ++ obs (.slice ap (KB k).prims.length cp))) w8 b o t:=h.up hk8 (fun y hy=>by
    have:y ∈ obs (.slice ae raws.length ce):=hy;simp [this]) fun y hy=>by
    simp only [List.mem_cons,List.mem_append] at hy ⊢;rcases hy with hy | hy | hy
    ·exact .inl (.inl hy)
    ·rcases so8 y hy with h | h
     ·exact .inl (.inr (.inl h))
     ·exact .inr (by omega)
    ·exact .inl (.inr (.inr hy))
   have h9:=h8.up (g':=bk :: (obs v8 ++ obs (.slice ap (KB k).prims.length cp))) hk9 (fun y hy=>by
    obtain rfl:y = bk:=by simpa using hy
    simp) fun y hy=>.inl hy
   have h10:=h9.up (g':=bk :: (obs v8 ++ obs (.slice ap (KB k).prims.length cp))) hk10 (by simp) fun y hy=>.inl hy;have h11:Dx (bk :: (obs v8 ++ obs v11)) w11 b o t:=h10.up hk11 (fun y hy=>by
    have:y ∈ obs (.slice ap (KB k).prims.length cp):=hy;simp [this]) fun y hy=>by
    simp only [List.mem_cons,List.mem_append] at hy ⊢;rcases hy with hy | hy | hy
    ·exact .inl (.inl hy)
    ·exact .inl (.inr (.inl hy))
    ·rcases so11 y hy with h | h
     ·exact .inl (.inr (.inr h))
     ·exact .inr (by omega)
   exact h11.up hk12 (fun y hy=>by
    obtain rfl:y = bk:=by simpa using hy
    simp) fun y hy=>.inl hy
  have ini:∀ b o t,New w5.heap.size w6 b o t -> Dx (bk :: (obs (.slice ae raws.length ce) ++ obs (.slice ap (KB k).prims.length cp))) w7 b o t:=fun b o t h=>⟨h.2.kp hk7 (by simp),fun hb=>by
   have h1:=h.1;simp only [List.mem_cons,List.mem_append] at hb;rcases hb with rfl | hb | hb
   ·have:=G.bk.lt; omega
   ·have:=(G.oe.block b (bx'.1 hb)).2; omega
   ·have:=(G.op.block b (bx'.1 hb)).2; omega⟩
  refine i6 ?_;refine ⟨(k + 1,v8,v11,raws ++ [raw]),by simp only; omega,rfl,⟨rfl,rfl,rfl,rfl,rfl,trivial⟩,by show k + 1 <= 3; omega,?_⟩;refine ⟨hB12,Own.kpG hE11 qt' hk12 fun g hg hx=>by
   obtain rfl:g = bk:=by simpa using hx
   exact n8 (bx'.2 hg),Own.kpG hP11 (fun _ _ _ _ h=>h) hk12 fun g hg hx=>by
   obtain rfl:g = bk:=by simpa using hx
   exact n11 (bx'.2 hg),?_,n8,n11,e11,G.lo,?_⟩
  ·refine All2.append (G7.al.mono fun cs x hd=>rEn.mono up hd) ⟨?_,trivial⟩
   subst hty hbo;rw [hraw];exact ⟨_,_,_,_,_,_,rfl,by constructor <;> simp [enD],SV.nil _ _,SV.nil _ _,SV.nil _ _,SV.nil _ _,hvt.mono fun b o t h=>up b o t (ini b o t h),hvu.mono fun b o t h=>up b o t (ini b o t h)⟩
  ·have q1:=(G7.k0.own hk8 G7.oe).trans hk9 fun x hx hl=>by
    obtain rfl:x = bk:=by simpa using hx
    have:=G.lo;omega
   exact ((q1.tr hk10).own hk11 (hP9.kp hk10)).trans hk12 fun x hx hl=>by
    obtain rfl:x = bk:=by simpa using hx
    have:=G.lo;omega
 ·have g:¬ ((k + 1:Nat):Int) <= 3:=g
  obtain rfl:k = 3:=by omega
  obtain ⟨l1,l2,e1,e2,e3⟩:=lb' 3;obtain ⟨nb,hnb⟩:=ub';refine ldN [iV 0,.slice none 0 0,.slice ae raws.length ce,iV 0,.slice ap (KB 3).prims.length cp] rfl (bZ G.bk) ?_;have hbc:=tZ' (Im.sub [] w5) (fun _ _ _ h=>h.hold) (G.bo (by omega)) 2000;rw [hnb,vm'.2] at hbc;refine ab' hbc ?_;rintro e w6 ⟨he,hk6⟩;have he:e = _:=he;subst he;have G6:=G.kp hk6;refine i6 ?_;have hx8:x < 8:=by omega
  have hy8:y < 8:=by omega
  have hxy:x * y <= 7 * 7:=Nat.mul_le_mul (by omega) (by omega);refine ac' (fun g2=>?_) (fun g2=>?_)
  ·have g2:(d:Int) = 2:=g2
   have e:(x:Int) * (y:Int) = ((wantN d x y:Nat):Int):=by
    unfold wantN;rw [if_pos (by omega)];simp
   have hw:wantN d x y <= 49:=by
    unfold wantN;rw [if_pos (by omega)];exact hxy
   refine qH' (by rw [e]; omega) (by rw [e]; omega) ?_;rw [e];obtain ⟨q,hq,hqr⟩:=hev (id:=d) (x:=x) (y:=y) (by omega) (by omega) hx8 hy8;obtain ⟨f1,f2,f3,f4⟩:=lZ' (id:=d) (x:=x) (y:=y) (by omega) (by omega) (by omega) (by omega);have hB:=cn' dY';have hW:wantN d x y <= 49:=by
    unfold wantN;split
    ·exact hxy
    split
    ·omega
    ·omega
   refine fill [iV 8,iV (d:Int),iV 0] rfl ?_;refine new fun b8 w8 hb8 h8 hs8 hk8=>?_;refine ab' (bd' x (by omega) w8) ?_;rintro e w9 ⟨ux,rfl,hux,hk9⟩;obtain ⟨ax,cx,rfl,hux1,hux2⟩:=hux;refine ab' (bd' y (by omega) w9) ?_;rintro e w10 ⟨uy,rfl,huy,hk10⟩;obtain ⟨ay,cy,rfl,huy1,huy2⟩:=huy;refine fill [.slice ax (row (cY' x)).length cx,.slice ay (row (cY' y)).length cy] rfl ?_;refine new fun b11' w11 hb11' h11 hs11 hk11=>?_;have hcT:TmV (Im [] w11) (.mk ⟨8,(d:Int),0⟩ []) (.slice (some ⟨b8,0,none⟩) 1 1):=TmV.sv.2 (gU' (n:=⟨8,(d:Int),0⟩) (h8.kp ((hk9.tr hk10).tr hk11) (by simp)) ⟨by constructor <;> simp,hid,by constructor <;> simp⟩);have hys:TmsV (Im [] w11) [cY' x,cY' y] (.slice (some ⟨b11',0,none⟩) 2 2):=uX' h11 (fun o v h=>⟨h,by simp⟩) ⟨_,_,rfl,hux1.mono fun _ _ _ h=>⟨h.2.cl.kp (hk10.tr hk11) (by simp),by simp⟩,hux2⟩ ⟨_,_,rfl,huy1.mono fun _ _ _ h=>⟨h.2.cl.kp hk11 (by simp),by simp⟩,huy2⟩;have hap:=fk' (Im.sub [] w11) f1 (ys:=[cY' x,cY' y]) (fun z hz=>by
    simp only [List.mem_cons,List.not_mem_nil,or_false] at hz;rcases hz with rfl | rfl
    ·exact fc' x (by omega)
    ·exact fc' y (by omega)) (by simp) hcT hys
   rw [f3] at hap;refine ab' hap ?_;rintro e w12 ⟨he,hk12⟩;rw [if_neg (by omega)] at he;obtain ⟨vc,rfl,hvc⟩:=he;obtain ⟨ac,cc,rfl,hvc1,hvc2⟩:=hvc;have k612:=(((hk8.tr hk9).tr hk10).tr hk11).tr hk12;have G12:=G6.kp k612;refine ldN [iV 0,.slice none 0 0,.slice ae raws.length ce,iV 0,.slice ap (KB 3).prims.length cp] rfl (bZ G12.bk) ?_;have hfit:=jw' dY' (c:=[]) (fun i q hq=>by simp at hq) (by simp) f2;refine ab' (jF' (X:=[]) hB (by simp) f2 hfit (G12.bo (by omega)) ⟨_,_,rfl,hvc1.mono fun _ _ _ h=>⟨h.2.cl,by simp⟩,hvc2⟩ hq) ?_;rintro e w13 ⟨⟨un,rfl,hun⟩,hk13⟩;obtain ⟨an,cn,rfl,hun1,hun2⟩:=hun;refine ab' (bd' (wantN d x y) (by omega) w13) ?_;rintro e w14 ⟨uw,rfl,huw,hk14⟩;obtain ⟨aw,cw,rfl,huw1,huw2⟩:=huw;have hsm:=gD' (C:=Im [] w14) (D:=New w13.heap.size w14) (Im.sub [] w14) (New.sub _ _) (row q.1) (row (cY' (wantN d x y))) an aw cn cw (hun1.mono fun _ _ _ h=>h.tr hk14) huw1;rw [decide_eq_true hqr] at hsm;refine ab' hsm ?_;rintro e w15 ⟨rfl,hk15⟩;exact ⟨rfl,(((G12.k0.tr hk13).tr hk14).tr hk15)⟩
  ·have g2:¬ (d:Int) = 2:=g2
   refine ac' (fun g4=>?_) (fun g4=>?_)
   ·have g4:(d:Int) = 3:=g4
    have e:max 0 ((x:Int) - (y:Int)) = ((wantN d x y:Nat):Int):=by
     unfold wantN;rw [if_neg (by omega),if_pos (by omega)];omega
    refine i6 ?_;refine jQ' ?_;rw [e];obtain ⟨q,hq,hqr⟩:=hev (id:=d) (x:=x) (y:=y) (by omega) (by omega) hx8 hy8;obtain ⟨f1,f2,f3,f4⟩:=lZ' (id:=d) (x:=x) (y:=y) (by omega) (by omega) (by omega) (by omega);have hB:=cn' dY';have hW:wantN d x y <= 49:=by
     unfold wantN;split
     ·exact hxy
     split
     ·omega
     ·omega
    refine fill [iV 8,iV (d:Int),iV 0] rfl ?_;refine new fun b8 w8 hb8 h8 hs8 hk8=>?_;refine ab' (bd' x (by omega) w8) ?_;rintro e w9 ⟨ux,rfl,hux,hk9⟩;obtain ⟨ax,cx,rfl,hux1,hux2⟩:=hux;refine ab' (bd' y (by omega) w9) ?_;rintro e w10 ⟨uy,rfl,huy,hk10⟩;obtain ⟨ay,cy,rfl,huy1,huy2⟩:=huy;refine fill [.slice ax (row (cY' x)).length cx,.slice ay (row (cY' y)).length cy] rfl ?_;refine new fun b11' w11 hb11' h11 hs11 hk11=>?_;have hcT:TmV (Im [] w11) (.mk ⟨8,(d:Int),0⟩ []) (.slice (some ⟨b8,0,none⟩) 1 1):=TmV.sv.2 (gU' (n:=⟨8,(d:Int),0⟩) (h8.kp ((hk9.tr hk10).tr hk11) (by simp)) ⟨by constructor <;> simp,hid,by constructor <;> simp⟩);have hys:TmsV (Im [] w11) [cY' x,cY' y] (.slice (some ⟨b11',0,none⟩) 2 2):=uX' h11 (fun o v h=>⟨h,by simp⟩) ⟨_,_,rfl,hux1.mono fun _ _ _ h=>⟨h.2.cl.kp (hk10.tr hk11) (by simp),by simp⟩,hux2⟩ ⟨_,_,rfl,huy1.mono fun _ _ _ h=>⟨h.2.cl.kp hk11 (by simp),by simp⟩,huy2⟩;have hap:=fk' (Im.sub [] w11) f1 (ys:=[cY' x,cY' y]) (fun z hz=>by
     simp only [List.mem_cons,List.not_mem_nil,or_false] at hz;rcases hz with rfl | rfl
     ·exact fc' x (by omega)
     ·exact fc' y (by omega)) (by simp) hcT hys
    rw [f3] at hap;refine ab' hap ?_;rintro e w12 ⟨he,hk12⟩;rw [if_neg (by omega)] at he;obtain ⟨vc,rfl,hvc⟩:=he;obtain ⟨ac,cc,rfl,hvc1,hvc2⟩:=hvc;have k612:=(((hk8.tr hk9).tr hk10).tr hk11).tr hk12;have G12:=G6.kp k612;refine ldN [iV 0,.slice none 0 0,.slice ae raws.length ce,iV 0,.slice ap (KB 3).prims.length cp] rfl (bZ G12.bk) ?_;have hfit:=jw' dY' (c:=[]) (fun i q hq=>by simp at hq) (by simp) f2;refine ab' (jF' (X:=[]) hB (by simp) f2 hfit (G12.bo (by omega)) ⟨_,_,rfl,hvc1.mono fun _ _ _ h=>⟨h.2.cl,by simp⟩,hvc2⟩ hq) ?_;rintro e w13 ⟨⟨un,rfl,hun⟩,hk13⟩;obtain ⟨an,cn,rfl,hun1,hun2⟩:=hun;refine ab' (bd' (wantN d x y) (by omega) w13) ?_;rintro e w14 ⟨uw,rfl,huw,hk14⟩;obtain ⟨aw,cw,rfl,huw1,huw2⟩:=huw;have hsm:=gD' (C:=Im [] w14) (D:=New w13.heap.size w14) (Im.sub [] w14) (New.sub _ _) (row q.1) (row (cY' (wantN d x y))) an aw cn cw (hun1.mono fun _ _ _ h=>h.tr hk14) huw1;rw [decide_eq_true hqr] at hsm;refine ab' hsm ?_;rintro e w15 ⟨rfl,hk15⟩;exact ⟨rfl,(((G12.k0.tr hk13).tr hk14).tr hk15)⟩
   ·have g4:¬ (d:Int) = 3:=g4
    have e:(x:Int) + (y:Int) = ((wantN d x y:Nat):Int):=by
     unfold wantN;rw [if_neg (by omega),if_neg (by omega)];simp
    rw [e];obtain ⟨q,hq,hqr⟩:=hev (id:=d) (x:=x) (y:=y) (by omega) (by omega) hx8 hy8;obtain ⟨f1,f2,f3,f4⟩:=lZ' (id:=d) (x:=x) (y:=y) (by omega) (by omega) (by omega) (by omega);have hB:=cn' dY';have hW:wantN d x y <= 49:=by
     unfold wantN;split
     ·exact hxy
     split
     ·omega
     ·omega
    refine fill [iV 8,iV (d:Int),iV 0] rfl ?_;refine new fun b8 w8 hb8 h8 hs8 hk8=>?_;refine ab' (bd' x (by omega) w8) ?_;rintro e w9 ⟨ux,rfl,hux,hk9⟩;obtain ⟨ax,cx,rfl,hux1,hux2⟩:=hux;refine ab' (bd' y (by omega) w9) ?_;rintro e w10 ⟨uy,rfl,huy,hk10⟩;obtain ⟨ay,cy,rfl,huy1,huy2⟩:=huy;refine fill [.slice ax (row (cY' x)).length cx,.slice ay (row (cY' y)).length cy] rfl ?_;refine new fun b11' w11 hb11' h11 hs11 hk11=>?_;have hcT:TmV (Im [] w11) (.mk ⟨8,(d:Int),0⟩ []) (.slice (some ⟨b8,0,none⟩) 1 1):=TmV.sv.2 (gU' (n:=⟨8,(d:Int),0⟩) (h8.kp ((hk9.tr hk10).tr hk11) (by simp)) ⟨by constructor <;> simp,hid,by constructor <;> simp⟩);have hys:TmsV (Im [] w11) [cY' x,cY' y] (.slice (some ⟨b11',0,none⟩) 2 2):=uX' h11 (fun o v h=>⟨h,by simp⟩) ⟨_,_,rfl,hux1.mono fun _ _ _ h=>⟨h.2.cl.kp (hk10.tr hk11) (by simp),by simp⟩,hux2⟩ ⟨_,_,rfl,huy1.mono fun _ _ _ h=>⟨h.2.cl.kp hk11 (by simp),by simp⟩,huy2⟩;have hap:=fk' (Im.sub [] w11) f1 (ys:=[cY' x,cY' y]) (fun z hz=>by
     simp only [List.mem_cons,List.not_mem_nil,or_false] at hz;rcases hz with rfl | rfl
     ·exact fc' x (by omega)
     ·exact fc' y (by omega)) (by simp) hcT hys
    rw [f3] at hap;refine ab' hap ?_;rintro e w12 ⟨he,hk12⟩;rw [if_neg (by omega)] at he;obtain ⟨vc,rfl,hvc⟩:=he;obtain ⟨ac,cc,rfl,hvc1,hvc2⟩:=hvc;have k612:=(((hk8.tr hk9).tr hk10).tr hk11).tr hk12;have G12:=G6.kp k612;refine ldN [iV 0,.slice none 0 0,.slice ae raws.length ce,iV 0,.slice ap (KB 3).prims.length cp] rfl (bZ G12.bk) ?_;have hfit:=jw' dY' (c:=[]) (fun i q hq=>by simp at hq) (by simp) f2;refine ab' (jF' (X:=[]) hB (by simp) f2 hfit (G12.bo (by omega)) ⟨_,_,rfl,hvc1.mono fun _ _ _ h=>⟨h.2.cl,by simp⟩,hvc2⟩ hq) ?_;rintro e w13 ⟨⟨un,rfl,hun⟩,hk13⟩;obtain ⟨an,cn,rfl,hun1,hun2⟩:=hun;refine ab' (bd' (wantN d x y) (by omega) w13) ?_;rintro e w14 ⟨uw,rfl,huw,hk14⟩;obtain ⟨aw,cw,rfl,huw1,huw2⟩:=huw;have hsm:=gD' (C:=Im [] w14) (D:=New w13.heap.size w14) (Im.sub [] w14) (New.sub _ _) (row q.1) (row (cY' (wantN d x y))) an aw cn cw (hun1.mono fun _ _ _ h=>h.tr hk14) huw1;rw [decide_eq_true hqr] at hsm;refine ab' hsm ?_;rintro e w15 ⟨rfl,hk15⟩;exact ⟨rfl,(((G12.k0.tr hk13).tr hk14).tr hk15)⟩
theorem ev10:(List.range 8).all (evN 1 0) = true:=by kernel_rfl
theorem ev11:(List.range 8).all (evN 1 1) = true:=by kernel_rfl
theorem ev12:(List.range 8).all (evN 1 2) = true:=by kernel_rfl
theorem ev13:(List.range 8).all (evN 1 3) = true:=by kernel_rfl
theorem ev14:(List.range 8).all (evN 1 4) = true:=by kernel_rfl
theorem ev15:(List.range 8).all (evN 1 5) = true:=by kernel_rfl
theorem ev16:(List.range 8).all (evN 1 6) = true:=by kernel_rfl
theorem ev17:(List.range 8).all (evN 1 7) = true:=by kernel_rfl
theorem ev30:(List.range 8).all (evN 3 0) = true:=by kernel_rfl
theorem ev31:(List.range 8).all (evN 3 1) = true:=by kernel_rfl
theorem ev32:(List.range 8).all (evN 3 2) = true:=by kernel_rfl
theorem ev33:(List.range 8).all (evN 3 3) = true:=by kernel_rfl
theorem ev34:(List.range 8).all (evN 3 4) = true:=by kernel_rfl
theorem ev35:(List.range 8).all (evN 3 5) = true:=by kernel_rfl
theorem ev36:(List.range 8).all (evN 3 6) = true:=by kernel_rfl
theorem ev37:(List.range 8).all (evN 3 7) = true:=by kernel_rfl
theorem wh':[0,1,2,3].all (evN 2 0) = true:=by kernel_rfl
theorem wi':[4,5].all (evN 2 0) = true:=by kernel_rfl
theorem wj':[6,7].all (evN 2 0) = true:=by kernel_rfl
theorem ev20:(List.range 8).all (evN 2 0) = true:=by
 have h1:=wh';have h2:=wi';have h3:=wj';simp only [List.all_cons,List.all_nil,Bool.and_true,Bool.and_eq_true] at h1 h2 h3;rw [show List.range 8 = [0,1,2,3,4,5,6,7] from rfl];simp only [List.all_cons,List.all_nil,Bool.and_true,Bool.and_eq_true];exact ⟨h1.1,h1.2.1,h1.2.2.1,h1.2.2.2,h2.1,h2.2,h3.1,h3.2⟩
theorem wk':[0,1,2,3].all (evN 2 1) = true:=by kernel_rfl
theorem wl':[4,5].all (evN 2 1) = true:=by kernel_rfl
theorem wm':[6,7].all (evN 2 1) = true:=by kernel_rfl
theorem ev21:(List.range 8).all (evN 2 1) = true:=by
 have h1:=wk';have h2:=wl';have h3:=wm';simp only [List.all_cons,List.all_nil,Bool.and_true,Bool.and_eq_true] at h1 h2 h3;rw [show List.range 8 = [0,1,2,3,4,5,6,7] from rfl];simp only [List.all_cons,List.all_nil,Bool.and_true,Bool.and_eq_true];exact ⟨h1.1,h1.2.1,h1.2.2.1,h1.2.2.2,h2.1,h2.2,h3.1,h3.2⟩
theorem wn':[0,1,2,3].all (evN 2 2) = true:=by kernel_rfl
theorem wo':[4,5].all (evN 2 2) = true:=by kernel_rfl
theorem wp':[6,7].all (evN 2 2) = true:=by kernel_rfl
theorem ev22:(List.range 8).all (evN 2 2) = true:=by
 have h1:=wn';have h2:=wo';have h3:=wp';simp only [List.all_cons,List.all_nil,Bool.and_true,Bool.and_eq_true] at h1 h2 h3;rw [show List.range 8 = [0,1,2,3,4,5,6,7] from rfl];simp only [List.all_cons,List.all_nil,Bool.and_true,Bool.and_eq_true];exact ⟨h1.1,h1.2.1,h1.2.2.1,h1.2.2.2,h2.1,h2.2,h3.1,h3.2⟩
theorem wq':[0,1,2,3].all (evN 2 3) = true:=by kernel_rfl
theorem wr':[4,5].all (evN 2 3) = true:=by kernel_rfl
theorem ws':[6,7].all (evN 2 3) = true:=by kernel_rfl
theorem ev23:(List.range 8).all (evN 2 3) = true:=by
 have h1:=wq';have h2:=wr';have h3:=ws';simp only [List.all_cons,List.all_nil,Bool.and_true,Bool.and_eq_true] at h1 h2 h3;rw [show List.range 8 = [0,1,2,3,4,5,6,7] from rfl];simp only [List.all_cons,List.all_nil,Bool.and_true,Bool.and_eq_true];exact ⟨h1.1,h1.2.1,h1.2.2.1,h1.2.2.2,h2.1,h2.2,h3.1,h3.2⟩
theorem wt':[0,1,2,3].all (evN 2 4) = true:=by kernel_rfl
theorem wu':[4,5].all (evN 2 4) = true:=by kernel_rfl
theorem wv':[6,7].all (evN 2 4) = true:=by kernel_rfl
theorem ev24:(List.range 8).all (evN 2 4) = true:=by
 have h1:=wt';have h2:=wu';have h3:=wv';simp only [List.all_cons,List.all_nil,Bool.and_true,Bool.and_eq_true] at h1 h2 h3;rw [show List.range 8 = [0,1,2,3,4,5,6,7] from rfl];simp only [List.all_cons,List.all_nil,Bool.and_true,Bool.and_eq_true];exact ⟨h1.1,h1.2.1,h1.2.2.1,h1.2.2.2,h2.1,h2.2,h3.1,h3.2⟩
theorem ww':[0,1,2,3].all (evN 2 5) = true:=by kernel_rfl
theorem wx':[4,5].all (evN 2 5) = true:=by kernel_rfl
theorem wy':[6,7].all (evN 2 5) = true:=by kernel_rfl
theorem ev25:(List.range 8).all (evN 2 5) = true:=by
 have h1:=ww';have h2:=wx';have h3:=wy';simp only [List.all_cons,List.all_nil,Bool.and_true,Bool.and_eq_true] at h1 h2 h3;rw [show List.range 8 = [0,1,2,3,4,5,6,7] from rfl];simp only [List.all_cons,List.all_nil,Bool.and_true,Bool.and_eq_true];exact ⟨h1.1,h1.2.1,h1.2.2.1,h1.2.2.2,h2.1,h2.2,h3.1,h3.2⟩
theorem wz':[0,1,2,3].all (evN 2 6) = true:=by kernel_rfl
theorem wA':[4,5].all (evN 2 6) = true:=by kernel_rfl
theorem wB':[6,7].all (evN 2 6) = true:=by kernel_rfl
theorem ev26:(List.range 8).all (evN 2 6) = true:=by
 have h1:=wz';have h2:=wA';have h3:=wB';simp only [List.all_cons,List.all_nil,Bool.and_true,Bool.and_eq_true] at h1 h2 h3;rw [show List.range 8 = [0,1,2,3,4,5,6,7] from rfl];simp only [List.all_cons,List.all_nil,Bool.and_true,Bool.and_eq_true];exact ⟨h1.1,h1.2.1,h1.2.2.1,h1.2.2.2,h2.1,h2.2,h3.1,h3.2⟩
theorem wC':[0,1,2,3].all (evN 2 7) = true:=by kernel_rfl
theorem wD':[4,5].all (evN 2 7) = true:=by kernel_rfl
theorem wE':[6,7].all (evN 2 7) = true:=by kernel_rfl
theorem ev27:(List.range 8).all (evN 2 7) = true:=by
 have h1:=wC';have h2:=wD';have h3:=wE';simp only [List.all_cons,List.all_nil,Bool.and_true,Bool.and_eq_true] at h1 h2 h3;rw [show List.range 8 = [0,1,2,3,4,5,6,7] from rfl];simp only [List.all_cons,List.all_nil,Bool.and_true,Bool.and_eq_true];exact ⟨h1.1,h1.2.1,h1.2.2.1,h1.2.2.2,h2.1,h2.2,h3.1,h3.2⟩
end Go.Proofs.YtmpgcpemnjbgjaaGreat
