import Derived.Test.YtpealcfjbcpoiaaGreatMl05
import Derived.Lib.AppendZerosOnto
set_option linter.unusedVariables false
set_option linter.unusedSimpArgs false
set_option maxHeartbeats 4000000
namespace Go.Proofs.YtpealcfjbcpoiaaGreat
open Go.Wx Cd Tm
theorem bH' {x:Tr} (hx:Ok .tm x) (hl:(row x).length <= 4096):bC' (row x) = 0:=by
 unfold bC';rw [if_neg (by omega),lf' hx]
 rfl
theorem oB' {h:Int -> Nd -> Option Tr} {G:Nat} (hG:1 <= G) (hg:∀ d n y,h d n = some y -> (row y).length <= G) {x y:Tr} {d nb:Int} (hx:Ok .tm x) (e:gT h x d nb = some y):(row y).length <= G * (row x).length:=by
 have:=vL' (h:=h) x .tm d nb () [] hx.1;rw [e] at this;have:=jY' hG (gI' hG hg) x d nb () [] () _ this
 simpa using this
theorem gL' {x:Tr} (hx:Ok .tm x) (hs:dl' x) {by_ fr:Int} (hb:by_ <= 500000):(row (aq' x by_ fr)).length <= (row x).length:=by
 have:=oB' (KJ 1) (fun d n y e=>by rw [jZ' e]; exact KJ _) hx (bj' hx hs hb (fr:=fr));omega
section
variable {C:Mem}
theorem qN' (x:Tr) (hx:Ok .tm x) (hsm:dl' x) (ta:Option Addr) (cap:Nat) (hsl:Sl rNd C ta (row x)) (hcap:(row x).length <= cap) (hlen:(row x).length <= 4096) (w:World) (hS:Sub C w) (hold:∀ b o v,C b o v -> b < w.heap.size) (by_ fr:Int) (hb:0 <= by_ /\ by_ <= 500000) (hf:0 <= fr /\ fr <= 1048577) :
  CC 7 #[.slice ta (row x).length cap,iV by_,iV fr] w (fun e w'=>(∃ v,e = .returned (.tuple #[v,iV 0]) /\ IsTm (aq' x by_ fr) w w' v) /\ Kp [] w w'):=by
 refine oF Tryz.func7 ?_;refine cO (args:=[_,_,_]) 27 [.tmp 6,.tmp 7] τok Tryz.func7 ?_;have hsh:=aR' hS (row x) ta cap hsl;rw [bH' hx hlen] at hsh;refine ab' hsh ?_;rintro e w1 ⟨rfl,hk1⟩;refine cj' (by omega) ?_;refine cj' (by omega) ?_;refine nj' ?_;rw [show min fr 1048577 = fr by omega];have hr:=ka' (C:=C) (lo:=w.heap.size) hold x hx ta cap hsl hcap (by omega) w1 (hS.tr hk1) hk1.size (.slice none 0 0) [] (Own.nil _ _ hk1.size) (by simp) by_ fr (by omega) (by omega);rw [bj' hx hsm hb.2] at hr;have hll:=gL' hx hsm (fr:=fr) hb.2;refine ab' hr ?_;rintro e w2 ⟨v',rfl,ho,hk2,_⟩;rw [List.nil_append] at ho;exact ⟨⟨v',rfl,Own.isTm ho (by omega)⟩,hk1.tr (hk2.weak (by simp [Value.ownBlock]))⟩
def we' (ba bt bd:Nat) (v:Int) (w:World) (s:Int × Int):Prop:=Bk w.heap ba [iV v] 3 /\ Bk w.heap bt [iV s.1] 3 /\ Bk w.heap bd [iV s.2] 3 /\ I64 s.1
def sm' (v:Int) (s:Int × Int) (a d:Int):(Int × Int) × Bool:=(if a - d = v then (IntKind.wrap .i64 (s.1 + 1),max s.2 d) else s,false)
theorem qO' (x:Int):I64 (IntKind.wrap .i64 x):=by
 unfold I64;simp only [IntKind.wrap,IntKind.bits,IntKind.signed];simp;omega
theorem wf' (x:Int) (h1:-9223372036854775808 <= x) (h2:x <= 9223372036854775807):IntKind.wrap .i64 x = x:=IntWalk.i64_in x (by omega)
theorem oC' {ba bt bd:Nat} {v:Int} (hne:ba ≠ bt /\ ba ≠ bd /\ bt ≠ bd):ow' 84 #[pt ba,pt bt,pt bd] [ba,bt,bd] (we' ba bt bd v) (sm' v):=by
 intro w s a d ha hd hu;rw [show (#[pt ba,pt bt,pt bd]:Array Value) = [pt ba,pt bt,pt bd].toArray from rfl,tg'];obtain ⟨h1,h2,h3,h4⟩:=hu;obtain ⟨n1,n2,n3⟩:=hne;refine oF Tryz.func84 ?_;refine cO (args:=[_,_,_,_,_]) 18 [.tmp 7] τok Tryz.func84 ?_;refine i6 ?_;refine ld (h1.cl rfl).cell ?_;refine ac' (fun g=>?_) (fun g=>?_)
 ·have g:(a:Int) - d = v:=g
  refine ld (h2.cl rfl).cell ?_;refine intw ?_;refine st (b:=bt) (o:=0) h2 (by simp) rfl fun w1 h2' hs1 hk1=>?_;refine ld ((h3.kp hk1 (by simpa using Ne.symm n3)).cl rfl).cell ?_;refine ob' ?_;refine st (b:=bd) (o:=0) (h3.kp hk1 (by simpa using Ne.symm n3)) (by simp) rfl fun w2 h3' hs2 hk2=>?_;have e:sm' v s a d = ((IntKind.wrap .i64 (s.1 + 1),max s.2 d),false):=by simp [sm',g]
  rw [e];refine ⟨rfl,⟨(h1.kp hk1 (by simpa using n1)).kp hk2 (by simpa using n2),h2'.kp hk2 (by simpa using n3),h3',?_⟩,(hk1.weak (by simp)).trans hk2 (by simp)⟩;exact qO' _
 ·have g:¬ (a:Int) - d = v:=g
  have e:sm' v s a d = (s,false):=by simp [sm',g]
  rw [e];exact ⟨rfl,⟨h1,h2,h3,h4⟩,Kp.refl _ _⟩
end
theorem fx' (v:Int):∀ (l:List (Int × Int)) (s:Int × Int),0 <= s.1 -> s.1 + l.length <= 4611686018427387904 -> dk' (sm' v) (false,s) l = (false,l.foldl (fun s q=>if q.1 - q.2 = v then (s.1 + 1,max s.2 q.2) else s) s)
 | [],s,_,_=>rfl
 | q :: r,s,h0,hl=>by
  simp only [JV] at hl;simp only [dk',kb',List.foldl_cons];rw [if_neg (by decide)]
  by_cases e:q.1 - q.2 = v
  ·simp only [sm',if_pos e]
   rw [wf' _ (by omega) (by omega)];exact fx' v r _ (by simp only; omega) (by simp only; omega)
  ·simp only [sm',if_neg e]
   exact fx' v r _ h0 (by omega)
theorem oD' {ba bd:Nat} {v dp:Int} (hv:0 <= v /\ v <= 300000) (hd:0 <= dp /\ dp <= 100000):ow' 85 #[pt ba,pt bd] [ba,bd] (fun w (_:Unit)=>Bk w.heap ba [iV v] 3 /\ Bk w.heap bd [iV dp] 3) (fun _ a d=>((),decide (d <= a) && decide (1048576 < a - d + v + dp))):=by
 intro w s a d ha hd' hu;rw [show (#[pt ba,pt bd]:Array Value) = [pt ba,pt bd].toArray from rfl,tg'];obtain ⟨h1,h2⟩:=hu;refine oF Tryz.func85 ?_;refine cO (args:=[_,_,_,_]) 20 [.tmp 6] τok Tryz.func85 ?_;refine ac' (fun g=>?_) (fun g=>?_)
 ·have g:(d:Int) <= a:=g
  refine i6 ?_;refine ld (h1.cl rfl).cell ?_;refine i6 ?_;refine ld (h2.cl rfl).cell ?_;refine i6 ?_;refine ⟨?_,⟨h1,h2⟩,Kp.refl _ _⟩;show Ending.returned (Value.bool (decide (1048576 < (a:Int) - d + v + dp))) = .returned (.bool (decide ((d:Int) <= a) && decide (1048576 < (a:Int) - d + v + dp)));rw [decide_eq_true g,Bool.true_and]
 ·have g:¬ (d:Int) <= a:=g
  refine ⟨?_,⟨h1,h2⟩,Kp.refl _ _⟩;show Ending.returned (Value.bool false) = .returned (.bool (decide ((d:Int) <= a) && decide (1048576 < (a:Int) - d + v + dp)));rw [decide_eq_false g,Bool.false_and]
def ti' (ba bu:Nat) (v:Int) (ua:Option Addr) (n cap:Nat) (w:World) (_:Unit):Prop:=Bk w.heap ba [iV v] 3 /\ Bk w.heap bu [.slice ua n cap] 29
theorem oE' {C:Mem} {ba bu:Nat} {v:Int} {M lo:Nat} (hv:0 <= v /\ v <= 300000) (hM:M <= 1099511600000) (hold:∀ b o v,C b o v -> b < lo) (u:Tr) (hu:Ok .tm u) (hsm:dl' u) (ua:Option Addr) (cap:Nat) (hsl:Sl rNd C ua (row u)) (hcap:(row u).length <= cap) (hlen:(row u).length <= 4096)
  (k:Wk) (kf:k.f = 86) (kc:k.caps = #[pt ba,pt bu]) (kU:k.UB = [ba,bu]) (kl:k.lo = lo) :
  k.One C (ti' ba bu v ua (row u).length cap) (gb' (aY' u v)) M 6:=by
 intro w vv s l n d i1 i2 i3 hp hd hl hS hO hfar hs;rw [kf,kc,show (#[pt ba,pt bu]:Array Value) = [pt ba,pt bu].toArray from rfl,te'];refine oF Tryz.func86 ?_;obtain ⟨hA0,hU0⟩:=hs;have hpb:=ba' hp;have na:ba ∉ vv.ownBlock.toList:=fun hx=>hfar ba (by simpa using hx) (by simp [Wk.bl,kU]);have nu:bu ∉ vv.ownBlock.toList:=fun hx=>hfar bu (by simpa using hx) (by simp [Wk.bl,kU]);obtain ⟨a0,c0,rfl,_⟩:=hO.cap;refine cO (args:=[_,_,_,_,_]) 51 [.tmp 8] τok Tryz.func86 ?_;refine new fun bn w1 hbn hN hs1 hk1=>?_;have hN:Bk w1.heap bn [iV n.op,iV n.a,iV n.b] 45:=hN;have hA1:=hA0.kp hk1 (by simp);have hU1:=hU0.kp hk1 (by simp);have hO1:=hO.kp hk1;have fin:∀ (m:Nd) (w2 w3:World) (bx:Nat) (v4:Value) (w4:World),Kp [] w w2 -> w3 = w2 -> Own rNd 45 k.lo w4 v4 (l ++ [m]) -> Kp (Value.slice a0 l.length c0).ownBlock.toList w3 w4 -> (v4.ownBlock = (Value.slice a0 l.length c0).ownBlock \/ v4.ownBlock = some w3.heap.size) -> gb' (aY' u v) (s,l) n d = some (s,l ++ [m]) -> wb' k (ti' ba bu v ua (row u).length cap) 6 w (.slice a0 l.length c0) (gb' (aY' u v) (s,l) n d) (.returned v4) w4:=by
  intro m w2 w3 bx v4 w4 k02 e3 ho hk4 hl4 e;subst e3;rw [e];refine ⟨v4,rfl,ho,⟨(hA0.kp k02 (by simp)).kp hk4 na,(hU0.kp k02 (by simp)).kp hk4 nu⟩,(k02.weak (by simp)).trans hk4 (fun x hx _=>List.mem_append_left _ hx),fun g hg=>?_⟩;rcases hl4 with q | q
  ·rw [q] at hg; exact .inl hg
  ·rw [q] at hg
   obtain rfl:=JB hg;exact .inr k02.size
 refine ld (hN.cl rfl).cell ?_;refine ac' (fun h1=>?_) (fun h1=>?_)
 ·have h1:n.op = 1:=h1
  refine ld (hN.cl rfl).cell ?_;refine ld (hA1.cl rfl).cell ?_;refine i6 ?_;refine ac' (fun h2=>?_) (fun h2=>?_)
  ·have h2:n.a = v + (d:Int):=h2
   refine ld (hU1.cl rfl).cell ?_;refine ld (hA1.cl rfl).cell ?_;refine i6 ?_;have hr:=ka' (C:=C) (lo:=lo) hold u hu ua cap hsl hcap (by omega) w1 (hS.tr hk1) (by have:=hO1.low; omega) (.slice a0 l.length c0) l (by rw [<- kl]; exact hO1) (by omega) (v + d) 0 (by omega) (by omega);rw [bj' hu hsm (by omega)] at hr;refine ab' hr ?_;rintro e w2 ⟨v2,rfl,ho2,hk2,hl2⟩;have e:gb' (aY' u v) (s,l) n d = some (s,l ++ row (aq' u (v + d) 0)):=by
    simp only [gb',h1,if_true,aY',if_pos h2,ep'];rw [if_pos (by omega)]
   rw [e];rw [<- kl] at ho2;exact ⟨v2,rfl,ho2,⟨hA1.kp hk2 na,hU1.kp hk2 nu⟩,(hk1.weak (by simp)).trans hk2 (fun x hx _=>List.mem_append_left _ hx),fun g hg=>(hl2 g hg).imp id fun q=>KQ hk1.size q⟩
  ·have h2:¬ n.a = v + (d:Int):=h2
   refine ld (hN.cl rfl).cell ?_;refine au' h1 ?_;refine ld (hN.cl rfl).cell ?_;refine ld (hA1.cl rfl).cell ?_;refine i6 ?_;refine ac' (fun h3=>?_) (fun h3=>?_)
   ·have h3:n.a > v + (d:Int):=h3
    refine ld (hN.cl rfl).cell ?_;obtain ⟨z,hz⟩:∃ z,z = n.a - 1:=⟨_,rfl⟩
    refine jK' z (by omega) (by omega) hz.symm ?_;refine st (b:=bn) (o:=1) hN (by simp) rfl fun w2 hN2 hs2 hk2=>?_;have hN2:Bk w2.heap bn [iV n.op,iV z,iV n.b] 45:=hN2;have k02:Kp [] w w2:=hk1.newSt hbn hk2;refine ldN [iV n.op,iV z,iV n.b] rfl (bZ hN2) ?_;refine fill [iV n.op,iV z,iV n.b] rfl ?_;refine new fun bx w3 hbx hX hs3 hk3=>?_;refine (hO.kp (k02.tr hk3)).ap1 τok rfl rfl (by decide) { n with a:=z } [iV n.op,iV z,iV n.b] ⟨rfl,i1,by unfold I64; simp only; omega,i3⟩ (bZ hX) (by omega) (by simp only [maxLen]; omega) fun v4 w4 hO4 hk4 hl4=>?_;exact fin { n with a:=z } w3 w3 bx v4 w4 (k02.tr hk3) rfl hO4 hk4 hl4 (by simp only [gb',h1,if_true,aY',if_neg h2]; rw [if_pos ⟨h3,by omega⟩]; simp [row,rows,<- hz,h1])
   ·have h3:¬ n.a > v + (d:Int):=h3
    refine ldN [iV n.op,iV n.a,iV n.b] rfl (bZ hN) ?_;refine fill [iV n.op,iV n.a,iV n.b] rfl ?_;refine new fun bx w3 hbx hX hs3 hk3=>?_;refine (hO1.kp hk3).ap1 τok rfl rfl (by decide) n [iV n.op,iV n.a,iV n.b] ⟨rfl,i1,i2,i3⟩ (bZ hX) (by omega) (by simp only [maxLen]; omega) fun v4 w4 hO4 hk4 hl4=>?_;exact fin n w3 w3 bx v4 w4 (hk1.tr hk3) rfl hO4 hk4 hl4 (by simp only [gb',h1,if_true,aY',if_neg h2]; rw [if_neg (by omega)]; simp [row,rows])
 ·have h1:¬ n.op = 1:=h1
  refine ld (hN.cl rfl).cell ?_;refine cj' h1 ?_;refine ldN [iV n.op,iV n.a,iV n.b] rfl (bZ hN) ?_;refine fill [iV n.op,iV n.a,iV n.b] rfl ?_;refine new fun bx w3 hbx hX hs3 hk3=>?_;refine (hO1.kp hk3).ap1 τok rfl rfl (by decide) n [iV n.op,iV n.a,iV n.b] ⟨rfl,i1,i2,i3⟩ (bZ hX) (by omega) (by simp only [maxLen]; omega) fun v4 w4 hO4 hk4 hl4=>?_;exact fin n w3 w3 bx v4 w4 (hk1.tr hk3) rfl hO4 hk4 hl4 (by simp only [gb',if_neg h1])
theorem kd' {u:Tr} (hu:Ok .tm u) (hsm:dl' u) (b:Int):(row (ep' u b)).length <= (row u).length:=by
 unfold ep';split
 ·rename_i h
  exact gL' hu hsm h.2
 ·exact KJ _
theorem ip' {u:Tr} (hu:Ok .tm u) (hsm:dl' u) {v d:Int} {n:Nd} {y:Tr} (e:aY' u v d n = some y):(row y).length <= (row u).length:=by
 have hp:=ag' u;simp only [aY'] at e;split at e
 ·obtain rfl:=JB e
  exact kd' hu hsm _
 ·split at e
  ·obtain rfl:=JB e
   simp [row,rows];omega
  ·obtain rfl:=JB e
   simp [row,rows];omega
def mm' (x u:Tr) (v:Int):Bool:=decide (4096 < ((row x).length:Int) + (io' x v).1 * (((row u).length:Int) - 1))
theorem oF' {C:Mem} (x u:Tr) (hx:Ok .tm x) (hu:Ok .tm u) (hsm:dl' u) (ta ua:Option Addr) (cap cap':Nat) (hsl:Sl rNd C ta (row x)) (hsu:Sl rNd C ua (row u)) (hcap:(row x).length <= cap) (hcap':(row u).length <= cap') (hlen:(row x).length <= 4096) (hlen':(row u).length <= 4096) (w:World) (hS:Sub C w) (hold:∀ b o v,C b o v -> b < w.heap.size) (v:Int) (hv:0 <= v /\ v <= 300000) :
  CC 63 #[.slice ta (row x).length cap,.slice ua (row u).length cap',iV v] w (fun e w'=>(if mm' x u v = true then e = .returned (.tuple #[.slice none 0 0,iV 9]) else ∃ z,e = .returned (.tuple #[z,iV 0]) /\ IsTm (bf' x u v) w w' z) /\ Kp [] w w'):=by
 refine oF Tryz.func63 ?_;refine ee' (args:=[_,_,_]) 50 [.tmp 6,.tmp 7] Tryz.func63 rfl rfl rfl (Nat.le_of_ble_eq_true rfl) ?_;refine bi' τok ?_;refine new fun bu w1 hbu hU1 hs1 hk1=>?_;refine new fun ba w2 hba hA2 hs2 hk2=>?_;have hU1:Bk w1.heap bu [.slice ua (row u).length cap'] 29:=hU1;have hA2:Bk w2.heap ba [iV v] 3:=hA2;have k02:=hk1.tr hk2;refine bi' τok ?_;have hsh:=aR' (hS.tr k02) (row x) ta cap hsl;rw [bH' hx hlen] at hsh;refine ab' hsh ?_;rintro e w3 ⟨rfl,hk3⟩;have k03:=k02.tr hk3;refine bi' τok ?_;refine ld ((hU1.kp (hk2.tr hk3) (by simp)).cl rfl).cell ?_;have hsh:=aR' (hS.tr k03) (row u) ua cap' hsu;rw [bH' hu hlen'] at hsh;refine ab' hsh ?_;rintro e w4 ⟨rfl,hk4⟩;have k04:=k03.tr hk4;have hA4:=hA2.kp (hk3.tr hk4) (by simp);refine bi' τok ?_;refine ld (hA4.cl rfl).cell ?_;refine cj' (p:=v < 0) (by omega) ?_;refine bi' τok ?_;refine ld (hA4.cl rfl).cell ?_;refine nj' ?_;rw [show min v 1048577 = v by omega];refine st (b:=ba) (o:=0) hA4 (by simp) rfl fun w5 hA5 hs5 hk5=>?_;have hU5:Bk w5.heap bu [.slice ua (row u).length cap'] 29:=(hU1.kp ((hk2.tr hk3).tr hk4) (by simp)).kp hk5 (by simp; omega);have k25:Kp [] w1 w5:=(hk2.newSt hba ((((Kp.refl [] w2).tr hk3).tr hk4).weak (by simp) |>.trans hk5 (by simp)))
 have k05:=hk1.tr k25;refine bi' τok ?_;refine new fun bt w6 hbt hT6 hs6 hk6=>?_;refine new fun bd w7 hbd hD7 hs7 hk7=>?_;refine st (b:=bt) (o:=0) (hT6.kp hk7 (by simp)) (by simp) rfl fun w8 hT8 hs8 hk8=>?_;refine st (b:=bd) (o:=0) (hD7.kp hk8 (by simp; omega)) (by simp) rfl fun w9 hD9 hs9 hk9=>?_;have k59:Kp [] w5 w9:=((((hk6.tr hk7).weak (by simp)).trans hk8 (fun x hx _=>hx)).trans hk9 (Y:=[bd]) (X:=[bt]) (fun x hx hlt=>by simp at hx; omega)).weak (fun x hx hlt=>by simp at hx; omega);have k09:=k05.tr k59;have hs09:=k05.size;have hA9:=hA5.kp k59 (by simp);have hU9:=hU5.kp k59 (by simp);have hbl1:=hU1.lt;have hbl2:=hA2.lt;have hz5:=hk5.size;have hz3:=hk3.size;have hz4:=hk4.size;have ne1:ba ≠ bt:=by omega
 have ne2:ba ≠ bd:=by omega
 have ne3:bt ≠ bd:=by omega
 have ne4:bu ≠ ba:=by omega
 refine bi' τok ?_;have hw:=ln' (C:=C) (oC' (v:=v) ⟨ne1,ne2,ne3⟩) (fun w w' s X h k hX=>⟨h.1.kp k fun hx=>hX _ hx (by simp),h.2.1.kp k fun hx=>hX _ hx (by simp),h.2.2.1.kp k fun hx=>hX _ hx (by simp),h.2.2.2⟩) (by simp; omega) w.heap.size hold x hx ta cap hsl hcap (by omega) w9 (hS.tr k09) k09.size (by simp; omega) (by simp; omega) (0,0) ⟨hA9,hT8.kp hk9 (by simpa using ne3),hD9,by simp [I64]⟩;have hvl:=ml' x 0 0;rw [fx' v _ _ (by decide) (by simp only; omega)] at hw;refine ab' hw ?_;rintro e w10 ⟨rfl,⟨hA10,hT10,hD10,_⟩,hk10⟩;simp only at hT10 hD10;obtain ⟨tm,htm⟩:∃ tm,io' x v = tm:=⟨_,rfl⟩
 rw [show (varsT x 0 0).foldl (fun s q=>if q.1 - q.2 = v then (s.1 + 1,max s.2 q.2) else s) ((0:Int),(0:Int)) = io' x v from rfl,htm] at hT10 hD10;obtain ⟨t1,t2,t3,t4⟩:=iX' v (varsT x 0 0) (0,0) 20000 (by decide) (by decide) (by decide) (fun q hq=>by
  have:=gJ' x .tm 0 0 hx.1 (by decide) (by decide) (by decide) q hq;omega)
 rw [show (varsT x 0 0).foldl (fun s q=>if q.1 - q.2 = v then (s.1 + 1,max s.2 q.2) else s) ((0:Int),(0:Int)) = io' x v from rfl,htm] at t1 t2 t3 t4;simp only at t2;have k0A:Kp [] w w10:=(k09.weak (by simp)).trans hk10 (X:=[ba,bt,bd]) (fun x hx _=>hx) |>.weak fun x hx hlt=>by
  simp only [JJ,JZ,or_false] at hx;omega
 have hU10:=hU9.kp hk10 (by simp; omega);refine fM' τok (fun _:Unit=>[(0,.slice ta (row x).length cap),(4,pt bu),(5,pt ba),(10,pt bt)]) (fun _ w'=>Kp [] w w' /\ Bk w'.heap bt [iV tm.1] 3 /\ Bk w'.heap ba [iV v] 3 /\ Bk w'.heap bu [.slice ua (row u).length cap'] 29) ?_ ?_
 ·refine ld (hT10.cl rfl).cell ?_
  refine ac' (fun g=>?_) (fun g=>?_)
  ·refine ld (hU10.cl rfl).cell ?_
   have hw2:=ln' (C:=C) (oD' (ba:=ba) (bd:=bd) (v:=v) (dp:=tm.2) hv ⟨t3,by omega⟩) (fun w w' s X h k hX=>⟨h.1.kp k fun hx=>hX _ hx (by simp),h.2.kp k fun hx=>hX _ hx (by simp)⟩) (by simp; omega) w.heap.size hold u hu ua cap' hsu hcap' (by omega) w10 (hS.tr k0A) k0A.size (by simp; omega) (by have:=hk10.size; simp; omega) () ⟨hA10,hD10⟩;have hz:(dk' (fun (_:Unit) a d=>((),decide (d <= a) && decide (1048576 < a - d + v + tm.2))) (false,()) (varsT u 0 0)).1 = false:=by
    rw [eU' fun a d=>decide (d <= a) && decide (1048576 < a - d + v + tm.2)];rw [Bool.false_or,List.any_eq_false];intro q hq;have h1:=hsm q hq;have h2:=gJ' u .tm 0 0 hu.1 (by decide) (by decide) (by decide) q hq;simp;omega
   rw [hz] at hw2;refine ab' hw2 ?_;rintro e w11 ⟨rfl,⟨hA11,_⟩,hk11⟩;exact ⟨(),rfl,⟨rfl,rfl,rfl,rfl,trivial⟩,(k0A.weak (by simp)).trans hk11 (X:=[ba,bd]) (fun x hx _=>hx) |>.weak (fun x hx hlt=>by simp at hx; omega),hT10.kp hk11 (by simp; omega),hA11,hU10.kp hk11 (by simp; omega)⟩
  ·exact ⟨(),rfl,⟨rfl,rfl,rfl,rfl,trivial⟩,k0A,hT10,hA10,hU10⟩
 rintro _ wB ⟨k0B,hTB,hAB,hUB⟩;refine fY' τok ?_;refine ld (hTB.cl rfl).cell ?_;refine ld (hUB.cl rfl).cell ?_;have hp:=ag' u;refine i6 ?_;obtain ⟨tn,htn⟩:∃ tn:Nat,tm.1 = tn:=⟨tm.1.toNat,by omega⟩
 obtain ⟨z,hz⟩:∃ z:Nat,z = tn * ((row u).length - 1):=⟨_,rfl⟩
 have hzb:z <= 4096 * 4096:=by
  rw [hz];exact Nat.mul_le_mul (by omega) (by omega)
 have hzi:tm.1 * (((row u).length:Int) - 1) = z:=by
  rw [htn,hz,Int.natCast_mul]
  congr 1
  omega
 refine jK' (z:Int) (by omega) (by omega) hzi ?_;refine i6 ?_;have hbig:mm' x u v = decide (4096 < ((row x).length:Int) + z):=by
  unfold mm';rw [htm,hzi]
 refine ac' (fun g=>?_) (fun g=>?_)
 ·have g:((row x).length:Int) + z > 4096:=g
  rw [hbig,decide_eq_true (by omega)];exact ⟨rfl,k0B⟩
 have g:¬ ((row x).length:Int) + z > 4096:=g;rw [hbig,decide_eq_false (by omega)];have hw3:=lm' (C:=C) (lo:=w.heap.size) (UB:=[ba,bu]) (f:=86) (caps:=#[pt ba,pt bu]) (ti' ba bu v ua (row u).length cap') (gb' (aY' u v)) 1099511600000 6 4096 (by decide) (by decide) hold
  (fun b hb=>by simp at hb; omega) (by simp; omega)
  (fun w w' s X h k hX=>⟨h.1.kp k fun hx=>hX _ hx (by simp),h.2.kp k fun hx=>hX _ hx (by simp)⟩)
  (fun k k1 k2 k3 k4=>oE' hv (KJ _) hold u hu hsm ua cap' hsu hcap' hlen' k k1 k2 k3 k4)
  (gI' (by decide) fun d n y e=>KQ (ip' hu hsm e) hlen')
  x hx ta cap hsl hcap (by omega) wB (hS.tr k0B) k0B.size (.slice none 0 0) [] (Own.nil _ _ k0B.size) (fun g hg=>by simp [Value.ownBlock] at hg) (fun b hb=>by
   have h1:=hAB.lt;have h2:=hUB.lt;simp at hb;rcases hb with rfl | rfl <;> omega) () ⟨hAB,hUB⟩ (by simp only [JU]; omega)
 rw [vL' x .tm 0 0 () [] hx.1,bB' hx v] at hw3;have hl3:=oB' (G:=4096) (by decide) (fun d n y e=>KQ (ip' hu hsm e) hlen') hx (bB' (u:=u) hx v);refine ab' hw3 ?_;rintro e wC ⟨v',rfl,ho,_,hkC,_⟩;rw [List.nil_append] at ho;exact ⟨⟨v',rfl,Own.isTm ho (by omega)⟩,(k0B.weak (by simp)).trans hkC (X:=[ba,bu]) (fun x hx _=>by simpa [Value.ownBlock] using hx) |>.weak fun x hx hlt=>by
  simp at hx;omega⟩
end Go.Proofs.YtpealcfjbcpoiaaGreat
namespace Go.Wx
def ez':Rd Value where
 sz:=1
 den C cs x:=cs = [x] /\ x.oneCell' = true
 len:=by rintro C cs x ⟨rfl,_⟩; rfl
 mono:=by rintro C C' cs x hc h; exact h
 one:=by rintro C cs x ⟨rfl,h⟩ u hu; simp at hu; subst hu; exact h
theorem bl':uI' ez':=fun _ _ _ _ h=>h
theorem Sl.none_nil {α:Type} {R:Rd α} {C:Mem} {l:List α} (h:Sl R C none l):l = []:=by
 rcases h.2 with h | ⟨_,_,h,_⟩
 ·exact List.length_eq_zero_iff.1 h
 ·cases h
theorem Sl.val {C:Mem} {a:Option Addr} {l:List Value} (h:Sl ez' C a l) {i:Nat} {x:Value} (hi:l[i]? = some x):∃ b o,a = some ⟨b,o,none⟩ /\ C b (o + i * 1) x /\ x.oneCell' = true:=by
 obtain ⟨b,o,ha,hc⟩:=h.at (ai' hi)
 obtain ⟨cs,⟨rfl,h1⟩,h2⟩:=hc i x hi;exact ⟨b,o,ha,h2 0 _ rfl,h1⟩
end Go.Wx
namespace Go.Proofs.YtpealcfjbcpoiaaGreat
open Go.Wx Cd Tm
def IsRw (l:List Nd) (w w':World) (v:Value):Prop:=∃ a c,v = .slice a l.length c /\ Sl rNd (New w.heap.size w') a l /\ l.length <= c
theorem Own.isRw {l:List Nd} {w w':World} {v:Value} (h:Own rNd 45 w.heap.size w' v l) (hl:l.length <= 1099511627776):IsRw l w w' v:=by
 obtain ⟨a1,c1,hv1,hcap⟩:=h.cap;obtain ⟨a2,c2,hv2,hs2⟩:=h.den hl;rw [hv1] at hv2;injection hv2 with e1 e2 e3
 subst e1 e3;exact ⟨a1,c1,hv1,hs2,hcap⟩
theorem gM' {C:Mem} {w:World} (hS:Sub C w) (l:List Nd) (a:Option Addr) (c:Nat) (hl:Sl rNd C a l) (hlen:l.length <= 1000000) :
  CC 27 #[.slice a l.length c] w (fun e w'=>(∃ v,e = .returned v /\ IsRw l w w' v) /\ Kp [] w w'):=by
 refine oF Tryz.func27 ?_;refine cO (args:=[_]) 8 [.tmp 2] τok Tryz.func27 ?_;refine od' τok rfl ?_;cases a with
 | none =>
  obtain rfl:=hl.none_nil;exact ⟨⟨_,rfl,none,0,rfl,Sl.nil _ _ _,KJ _⟩,Kp.refl _ _⟩
 | some a =>
  refine fill [] rfl ?_;refine new fun b1 w1 hb1 hB1 hs1 hk1=>?_;refine (Own.empty rNd hB1 (lo:=w.heap.size) (by omega)).apF τok rfl rfl (by decide) cy' (hS.tr hk1) l hl (by simp only [JU]; omega) (by simp only [JU,maxLen]; omega) fun v2 w2 hO2 hk2 _=>?_;rw [List.nil_append] at hO2;exact ⟨⟨v2,rfl,Own.isRw hO2 (by omega)⟩,hk1.own hk2 (Own.empty rNd hB1 (lo:=w.heap.size) (by omega))⟩
structure PtS (C:Mem) (w0 w:World) (t:List Nd) (ta:Option Addr) (cap bt ba bo br bn:Nat) (cn:List Value) (p:Nat) (vo vr:Value) (os:List Value) (rs:List Int):Prop where
 sub:Sub C w
 k0:Kp [] w0 w
 low:w0.heap.size <= bt /\ w0.heap.size <= ba /\ w0.heap.size <= bo /\ w0.heap.size <= br /\ w0.heap.size <= bn
 nd:[bt,ba,bo,br,bn].Nodup
 cbt:Bk w.heap bt [.slice ta t.length cap] 29
 cba:Bk w.heap ba [iV (p:Int)] 3
 cbo:Bk w.heap bo [vo] 52
 cbr:Bk w.heap br [vr] 138
 cbn:Bk w.heap bn cn 45
 oo:Own ez' 29 w0.heap.size w vo os
 orr:Own rInt 3 w0.heap.size w vr rs
 f1:∀ g,vo.ownBlock = some g -> g ∉ [bt,ba,bo,br,bn] /\ vr.ownBlock ≠ some g
 f2:∀ g,vr.ownBlock = some g -> g ∉ [bt,ba,bo,br,bn]
section
variable {C:Mem} {w0:World} {t:List Nd} {ta:Option Addr} {cap bt ba bo br bn:Nat} {cn:List Value}
theorem lq' (hS0:Sub C w0) (hsl:Sl rNd C ta t) (hcap:t.length <= cap) (y:Tr) (hy:Ok .tm y) (suf:List Nd) (p:Nat) (ht:t.drop p = row y ++ suf) (hlt:t.length <= 20000) (b0:Int) (hb0:I64 b0) {w:World} {vo vr:Value} {os:List Value} {rs:List Int} (s:PtS C w0 w t ta cap bt ba bo br bn cn p vo vr os rs) (hol:os.length <= 20000) (hrl:rs.length <= 20000) :
  CC 94 #[iV b0,pt bt,pt ba,pt bo,pt br] w (fun e w'=>e = .returned (.tuple #[]) /\ ∃ vo' vr' b o,ta = some ⟨b,o,none⟩ /\ PtS C w0 w' t ta cap bt ba bo br bn cn (p + (row y).length) vo' vr' (os ++ [.slice (some ⟨b,o + p * 3,none⟩) (row y).length (cap - p)]) (rs ++ [b0])):=by
 refine oF Tryz.func94 ?_;obtain ⟨l1,l2,l3,l4,l5⟩:=s.low;have hnd:=s.nd;simp only [List.nodup_cons,JJ,JZ,or_false,not_or] at hnd;obtain ⟨⟨n1,n2,n3,n4⟩,⟨n5,n6,n7⟩,⟨n8,n9⟩,n10,_⟩:=hnd;have hp:=ag' y;have hl:t.length - p = (row y).length + suf.length:=by rw [<- List.length_drop,ht,JK]
 obtain ⟨n,ks⟩:=y;have ht':=ht;rw [row,List.cons_append] at ht';obtain ⟨hn,hplt,_⟩:=iW' ht';obtain ⟨b,o,rfl,_⟩:=ft' hsl hn;obtain ⟨Y,hY⟩:∃ Y,row (.mk n ks) = Y:=⟨_,rfl⟩
 have hend:qF' t p = ((p + Y.length:Nat):Int):=by
  have h1:=lg' hy (t.take p) suf;rw [<- ht,List.take_append_drop,List.length_take,Nat.min_eq_left (by omega),hY] at h1;rw [cR',h1]
  rfl
 rw [hY] at hp hl ht ⊢;refine cO (args:=[_,_,_,_,_]) 22 [] τok Tryz.func94 ?_;refine ld (s.cbt.cl rfl).cell ?_;refine ld (s.cba.cl rfl).cell ?_;have hec:=iU' t _ cap hsl t.length w s.sub p (by omega) (by omega) (fun _=>by omega);rw [hend] at hec;refine ab' hec ?_;rintro e w1 ⟨rfl,hk1⟩;have bt1:=s.cbt.kp hk1 (by simp);have ba1:=s.cba.kp hk1 (by simp);have bo1:=s.cbo.kp hk1 (by simp);have oo1:=s.oo.kp hk1;have nof:∀ x,x ∈ [bt,ba,bo,br,bn] -> x ∉ vo.ownBlock.toList:=fun x hx hv=>(s.f1 x (by simpa using hv)).1 hx;have nrf:∀ x,x ∈ [bt,ba,bo,br,bn] -> x ∉ vr.ownBlock.toList:=fun x hx hv=>s.f2 x (by simpa using hv) hx;refine as' τok (fun z=>Kp vo.ownBlock.toList w1 z) ?_;refine rV τok (rg 0 5) 3 (mR 8 5) ((Kp.refl _ w1).dr _) ?_;refine ldQ (fun z hz=>(bo1.cl rfl).kp hz (nof _ (by simp))) ?_;refine ldQ (fun z hz=>(bt1.cl rfl).kp hz (nof _ (by simp))) ?_;refine ldQ (fun z hz=>(ba1.cl rfl).kp hz (nof _ (by simp))) ?_;refine cw' τok rfl p (p + Y.length) (.slice (some ⟨b,o + p * 3,none⟩) Y.length (cap - p)) rfl rfl (by omega) (by omega) (by rw [eT' (by omega),Nat.add_sub_cancel_left]) ?_;refine nV τok 5 2 (mR 8 6) ?_;refine fill [.slice (some ⟨b,o + p * 3,none⟩) Y.length (cap - p)] rfl ?_;refine new fun bx w2 hbx hX hs2 hk2=>?_;have hk2:Kp [] w1 w2:=hk2.rd;refine ⟨.inl (hk2.weak (by simp)),?_⟩;refine nV τok 6 1 (mR 8 7) ?_;refine (oo1.kp hk2).ap1 τok rfl rfl (by decide) (.slice (some ⟨b,o + p * 3,none⟩) Y.length (cap - p)) [.slice (some ⟨b,o + p * 3,none⟩) Y.length (cap - p)] ⟨rfl,rfl⟩ (bZ hX) (by omega) (by simp only [maxLen]; omega) fun v3 w3 ho3 hk3 hl3=>?_;have lat3:v3.ownBlock = vo.ownBlock \/ v3.ownBlock = some w2.heap.size:=hl3;refine ⟨.inl ((hk2.weak (by simp)).tq hk3),?_⟩;refine nV τok 7 0 (mR 8 8) ?_;obtain ⟨a3,c3,hv3,_⟩:=ho3.cap;refine st (b:=bo) (o:=0) ((bo1.kp hk2 (by simp)).kp hk3 (nof _ (by simp))) (by simp) (by rw [hv3]; rfl) fun w4 hb4 hs4 hk4=>?_;refine ⟨.inr (by kernel_rfl),?_⟩;refine dV ?_;have k01:=s.k0.tr hk1;have k02:=k01.tr hk2;have k03:Kp [] w0 w3:=k02.trans hk3 fun x hx hlt=>by
  have:=(s.oo.block x (by simpa using hx)).1;omega
 have k04:Kp [] w0 w4:=k03.trans hk4 fun x hx hlt=>by
  simp at hx;omega
 have br3:=((s.cbr.kp hk1 (by simp)).kp hk2 (by simp)).kp hk3 (nof _ (by simp));have br4:=br3.kp hk4 (by simpa using Ne.symm n8);have or4:Own rInt 3 w0.heap.size w4 vr rs:=(((s.orr.kp hk1).kp hk2).kpG gD' hk3 fun g hg hx=>(s.f1 g (by simpa using hx)).2 hg).kpG gD' hk4 fun g hg hx=>by
  obtain rfl:g = bo:=by simpa using hx
  exact s.f2 _ hg (by simp)
 refine ld (br4.cl rfl).cell ?_;refine fill [iV b0] rfl ?_;refine new fun by' w5 hby hY5 hs5 hk5=>?_
 refine (or4.kp hk5).ap1 τok rfl rfl (by decide) b0 [iV b0] ⟨rfl,hb0⟩ (bZ hY5) (by omega) (by simp only [maxLen]; omega) fun v6 w6 ho6 hk6 hl6=>?_;obtain ⟨a6,c6,hv6,_⟩:=ho6.cap;have k05:=k04.tr hk5;have k06:Kp [] w0 w6:=k05.trans hk6 fun x hx hlt=>by
  have:=(s.orr.block x (by simpa using hx)).1;omega
 refine st (b:=br) (o:=0) ((br4.kp hk5 (by simp)).kp hk6 (nrf _ (by simp))) (by simp) (by rw [hv6]; rfl) fun w7 hb7 hs7 hk7=>?_;have k07:Kp [] w0 w7:=k06.trans hk7 fun x hx hlt=>by
  simp at hx;omega
 have ba7:=(((((ba1.kp hk2 (by simp)).kp hk3 (nof _ (by simp))).kp hk4 (by simpa using n5)).kp hk5 (by simp)).kp hk6 (nrf _ (by simp))).kp hk7 (by simpa using n6);refine st (b:=ba) (o:=0) ba7 (by simp) rfl fun w8 hb8 hs8 hk8=>?_;have k08:Kp [] w0 w8:=k07.trans hk8 fun x hx hlt=>by
  simp at hx;omega
 have hsz1:=hk1.size;have hsz2:=hk2.size;have hsz3:=hk3.size;have hsz5:=hk5.size;have lt1:=bt1.lt;have lt2:=ba1.lt;have lt3:=bo1.lt;have lt4:=(s.cbr.kp hk1 (by simp)).lt;have lt5:=(s.cbn.kp hk1 (by simp)).lt;have hvob:∀ g,vo.ownBlock = some g -> g < w1.heap.size:=fun g hg=>(oo1.block g hg).2;have hvrb:∀ g,vr.ownBlock = some g -> g < w1.heap.size:=fun g hg=>((s.orr.kp hk1).block g hg).2;have h3b:∀ g,v3.ownBlock = some g -> g < w3.heap.size:=fun g hg=>(ho3.block g hg).2;have far3:∀ g,v3.ownBlock = some g -> g ∉ [bt,ba,bo,br,bn] /\ vr.ownBlock ≠ some g:=fun g hg=>by
  rcases lat3 with q | q
  ·rw [q] at hg
   exact s.f1 g hg
  ·rw [q] at hg
   obtain rfl:=JB hg;refine ⟨fun hx=>?_,fun hr=>?_⟩
   ·simp only [JJ,JZ,or_false] at hx
    omega
   ·have:=hvrb _ hr
    omega
 have far6:∀ g,v6.ownBlock = some g -> g ∉ [bt,ba,bo,br,bn] /\ v3.ownBlock ≠ some g:=fun g hg=>by
  rcases hl6 with q | q
  ·rw [q] at hg
   exact ⟨s.f2 g hg,fun h=>(far3 g h).2 hg⟩
  ·rw [q] at hg
   obtain rfl:=JB hg;refine ⟨fun hx=>?_,fun hr=>?_⟩
   ·simp only [JJ,JZ,or_false] at hx
    omega
   ·have:=h3b _ hr
    omega
 have oo8:Own ez' 29 w0.heap.size w8 v3 (os ++ [.slice (some ⟨b,o + p * 3,none⟩) Y.length (cap - p)]):=by
  have h4:=ho3.kpG bl' hk4 fun g hg hx=>by
   obtain rfl:g = bo:=by simpa using hx
   exact (far3 _ hg).1 (by simp)
  have h6:=(h4.kp hk5).kpG bl' hk6 fun g hg hx=>(far3 g hg).2 (by simpa using hx);have h7:=h6.kpG bl' hk7 fun g hg hx=>by
   obtain rfl:g = br:=by simpa using hx
   exact (far3 _ hg).1 (by simp)
  exact h7.kpG bl' hk8 fun g hg hx=>by
   obtain rfl:g = ba:=by simpa using hx
   exact (far3 _ hg).1 (by simp)
 have or8:Own rInt 3 w0.heap.size w8 v6 (rs ++ [b0]):=(ho6.kpG gD' hk7 fun g hg hx=>by
   obtain rfl:g = br:=by simpa using hx
   exact (far6 _ hg).1 (by simp)).kpG gD' hk8 fun g hg hx=>by
   obtain rfl:g = ba:=by simpa using hx
   exact (far6 _ hg).1 (by simp)
 have hsub8:Sub C w8:=hS0.tr k08;refine ⟨rfl,v3,v6,b,o,rfl,hsub8,k08,s.low,s.nd,?_,hb8,?_,hb7.kp hk8 (by simpa using Ne.symm n6),?_,oo8,or8,fun g hg=>⟨(far3 g hg).1,fun h=>(far6 g h).2 hg⟩,fun g hg=>(far6 g hg).1⟩
 ·exact ((((((bt1.kp hk2 (by simp)).kp hk3 (nof _ (by simp))).kp hk4 (by simpa using n2)).kp hk5 (by simp)).kp hk6 (nrf _ (by simp))).kp hk7 (by simpa using n3)).kp hk8 (by simpa using n1)
 ·exact (((hb4.kp hk5 (by simp)).kp hk6 (nrf _ (by simp))).kp hk7 (by simpa using n8)).kp hk8 (by simpa using Ne.symm n5)
 ·exact (((((((s.cbn.kp hk1 (by simp)).kp hk2 (by simp)).kp hk3 (nof _ (by simp))).kp hk4 (by simpa using Ne.symm n9)).kp hk5 (by simp)).kp hk6 (nrf _ (by simp))).kp hk7 (by simpa using Ne.symm n10)).kp hk8 (by simpa using Ne.symm n7)
end
end Go.Proofs.YtpealcfjbcpoiaaGreat
namespace Tm
open Go Go.Wx Cd
def kidsT:Tr -> List Tr
 | .mk n ks=>if n.op = 2 then [] else if n.op = 12 then ks.flatMap (·.ks) else ks
def Pcs (C:Mem) (os:List Value) (ys:List Tr):Prop:=os.length = ys.length /\ ∀ (i:Nat) v y,os[i]? = some v -> ys[i]? = some y -> ∃ a c,v = .slice a (row y).length c /\ Sl rNd C a (row y) /\ (row y).length <= c
theorem Pcs.snoc {C:Mem} {os:List Value} {ys:List Tr} (h:Pcs C os ys) {y:Tr} {a:Option Addr} {c:Nat} (hs:Sl rNd C a (row y)) (hc:(row y).length <= c):Pcs C (os ++ [.slice a (row y).length c]) (ys ++ [y]):=by
 obtain ⟨h1,h2⟩:=h;refine ⟨by simp [h1],fun i v z hv hz=>?_⟩
 by_cases hi:i < os.length
 ·rw [List.getElem?_append_left hi] at hv
  rw [List.getElem?_append_left (by omega)] at hz;exact h2 i v z hv hz
 ·rw [List.getElem?_append_right (by omega)] at hv hz
  have e:i - os.length = 0:=by
   have:=ai' hv;simp at this;omega
  rw [<- h1,e] at hz;rw [e] at hv;simp only [List.getElem?_cons_zero,Option.some.injEq] at hv hz;subst hv hz;exact ⟨a,c,rfl,hs,hc⟩
theorem Pcs.sl {D:Mem} {a:Option Addr} {os:List Value} {ys:List Tr} (h:Pcs D os ys) (hs:Sl ez' D a os):Sl (rSk rNd) D a (ys.map row):=by
 refine ⟨by rw [List.length_map,<- h.1]; exact hs.1,?_⟩;rcases hs.2 with h0 | ⟨b,o,rfl,hc⟩
 ·exact .inl (by rw [List.length_map,<- h.1]; exact h0)
 ·refine .inr ⟨b,o,rfl,fun i x hx=>?_⟩
  rw [JX] at hx;obtain ⟨y,hy,rfl⟩:=Option.map_eq_some_iff.1 hx;have hi:=ai' hy;obtain ⟨v,hv⟩:∃ v,os[i]? = some v:=⟨os[i]'(by have:=h.1; omega),by simp⟩
  obtain ⟨cs,⟨rfl,h1⟩,h2⟩:=hc i v hv;obtain ⟨a',c',rfl,h3,h4⟩:=h.2 i _ y hv hy;exact ⟨_,⟨a',c',rfl,h4,h3⟩,h2⟩
theorem eu':∀ {ks:List Tr},(∀ k ∈ ks,k.ks.length = 2) -> (ks.flatMap (·.ks)).length = 2 * ks.length
 | [],_=>rfl
 | k :: r,h=>by
  simp only [List.flatMap_cons,JK,JV];rw [h k (by simp),eu' fun k hk=>h k (by simp [hk])];omega
end Tm
namespace Go.Proofs.YtpealcfjbcpoiaaGreat
open Go.Wx Cd Tm
theorem tj' (a:Value) (l:List Value):((#[]:Array Value) ++ [a].toArray ++ l.toArray) = (a :: l).toArray:=by simp
def kbT (n:Nd) (k:Nat):Int:=if n.op = 12 then (if k % 2 = 1 then n.b else 0) else aJ' n k
theorem qP' {C:Mem} {w:World} (hS:Sub C w) (hold:∀ b o v,C b o v -> b < w.heap.size) (x:Tr) (hx:Ok .tm x) (ta:Option Addr) (cap:Nat) (hsl:Sl rNd C ta (row x)) (hcap:(row x).length <= cap) (hlen:(row x).length <= 4096) :
  CC 75 #[.slice ta (row x).length cap] w (fun e w'=>∃ vo vr os,e = .returned (.tuple #[vo,vr]) /\ Own ez' 29 w.heap.size w' vo os /\ Pcs C os (kidsT x) /\ Own rInt 3 w.heap.size w' vr ((List.range (kidsT x).length).map (kbT x.n)) /\ Kp [] w w'):=by
 refine oF Tryz.func75 ?_;obtain ⟨n,ks⟩:=x;obtain ⟨hp,h3,h13⟩:=hx.tm;obtain ⟨hc,hok,hinc⟩:=hx.kids;obtain ⟨t,ht⟩:∃ t,row (.mk n ks) = t:=⟨_,rfl⟩
 rw [ht] at hsl hcap hlen ⊢;have ht0:t = n :: rows ks:=by rw [<- ht,row]
 have hn:t[0]? = some n:=by rw [ht0]; rfl
 have ht1:t.drop 1 = rows ks:=by rw [ht0]; rfl
 obtain ⟨b,o,rfl,i1,i2,i3,hcells⟩:=ft' hsl hn;have hbn:=ba' hp;have htl:0 < t.length:=ai' hn;refine cO (args:=[_]) 38 [.tmp 2,.tmp 3] τok Tryz.func75 ?_;refine new fun bt w1 hbt hT1 hs1 hk1=>?_;refine ld (hT1.cl rfl).cell ?_;refine ix 0 rfl htl ?_;refine ldN [iV n.op,iV n.a,iV n.b] rfl (fun j v hj=>(hS.tr hk1) _ _ _ (hcells j v hj)) ?_;refine new fun bn w2 hbn2 hB0 hs2 hk2=>?_;refine stN (vs:=[iV n.op,iV n.a,iV n.b]) hB0 rfl (by simp [Value.oneCell']) fun w3 hB3 hs3 hk3=>?_;have hB3:Bk w3.heap bn [iV n.op,iV n.a,iV n.b] 45:=hB3;have k13:Kp [] w1 w3:=hk2.newSt hbn2 hk3;refine new fun bo w4 hbo hO4 hs4 hk4=>?_;refine new fun br w5 hbr hR5 hs5 hk5=>?_;refine new fun ba w6 hba hA6 hs6 hk6=>?_;refine st (b:=ba) (o:=0) hA6 (by simp) rfl fun w7 hA7 hs7 hk7=>?_;have k57:Kp [] w5 w7:=hk6.newSt hba hk7;have k07:=(((hk1.tr k13).tr hk4).tr hk5).tr k57;have hB7:=hB3.kp ((hk4.tr hk5).tr k57) (by simp);have hlow:=k07.size;have st0:PtS C w w7 t (some ⟨b,o,none⟩) cap bt ba bo br bn [iV n.op,iV n.a,iV n.b] 1 (.slice none 0 0) (.slice none 0 0) [] [] :=
  ⟨hS.tr k07,k07,⟨by omega,by omega,by omega,by omega,by omega⟩,by simp; omega,hT1.kp (((k13.tr hk4).tr hk5).tr k57) (by simp),hA7,hO4.kp (hk5.tr k57) (by simp),hR5.kp k57 (by simp),hB7,Own.nil _ _ hlow,Own.nil _ _ hlow,fun g hg=>by simp [Value.ownBlock] at hg,fun g hg=>by simp [Value.ownBlock] at hg⟩
 refine ldN [iV n.op,iV n.a,iV n.b] rfl (bZ hB7) ?_;refine ab' (iT' n (by unfold I64; omega) w7) ?_;rintro e w8 ⟨rfl,hk8⟩;obtain ⟨kk,hkk⟩:∃ kk,kk = (if n.op = 2 then [] else ks):=⟨_,rfl⟩
 have hkp:=dj' hp;have hkkc:ar' n = (kk.length:Int) /\ okL cnt nx kk n .tm 0 /\ eo' kk = true:=by
  obtain ⟨_,_,_,hkc⟩:=bG' hc
  by_cases h2:n.op = 2
  ·rw [if_pos h2] at hkk
   subst hkk;exact ⟨by simp [ar',h2],trivial,rfl⟩
  ·rw [if_neg h2] at hkk hkc
   subst hkk;exact ⟨by omega,hok,hinc⟩
 rw [hkkc.1];have hkl:kk.length <= 18:=by omega
 have hdr:n.op ≠ 2 -> t.drop 1 = rows kk:=fun h=>by rw [hkk,if_neg h]; exact ht1
 have hkT:kidsT (.mk n ks) = if n.op = 12 then kk.flatMap (·.ks) else kk:=by
  simp only [kidsT,hkk]
  by_cases h2:n.op = 2
  ·rw [if_pos h2,if_pos h2]
   simp
  ·rw [if_neg h2,if_neg h2]
 rw [hkT];have st8:PtS C w w8 t (some ⟨b,o,none⟩) cap bt ba bo br bn [iV n.op,iV n.a,iV n.b] 1 (.slice none 0 0) (.slice none 0 0) [] [] :=
  ⟨st0.sub.tr hk8,k07.tr hk8,st0.low,st0.nd,st0.cbt.kp hk8 (by simp),st0.cba.kp hk8 (by simp),st0.cbo.kp hk8 (by simp),st0.cbr.kp hk8 (by simp),st0.cbn.kp hk8 (by simp),st0.oo.kp hk8,st0.orr.kp hk8,st0.f1,st0.f2⟩
 refine lp τok (σ:=Nat × Nat × Value × Value × List Value × List Int × List Tr × List Tr) (fun q=>[(1,pt bt),(4,pt bn),(5,pt bo),(6,pt br),(7,pt ba),(8,.func (.func 94) #[] #[pt bt,pt ba,pt bo,pt br]),(15,iV (kk.length:Int)),(16,iV (q.1:Int))])
  (fun q w'=>q.1 <= kk.length /\ q.2.2.2.2.2.2.1.length = kk.length - q.1 /\ PtS C w w' t (some ⟨b,o,none⟩) cap bt ba bo br bn [iV n.op,iV n.a,iV n.b] q.2.1 q.2.2.1 q.2.2.2.1 q.2.2.2.2.1 q.2.2.2.2.2.1 /\ Pcs C q.2.2.2.2.1 q.2.2.2.2.2.2.2 /\ q.2.2.2.2.2.2.2 ++ (if n.op = 12 then q.2.2.2.2.2.2.1.flatMap (·.ks) else q.2.2.2.2.2.2.1) = (if n.op = 12 then kk.flatMap (·.ks) else kk) /\ (n.op ≠ 2 -> t.drop q.2.1 = rows q.2.2.2.2.2.2.1) /\ okL cnt nx q.2.2.2.2.2.2.1 n .tm 0 /\ eo' q.2.2.2.2.2.2.1 = true /\ q.2.2.2.2.1.length <= 2 * q.1 /\ q.2.2.2.2.2.1.length <= 2 * q.1 /\ q.2.2.2.2.2.1 = (List.range (if n.op = 12 then 2 * q.1 else q.1)).map (kbT n) /\ q.2.2.2.2.2.2.2.length = if n.op = 12 then 2 * q.1 else q.1)
  (fun q=>kk.length - q.1) (0,1,.slice none 0 0,.slice none 0 0,[],[],kk,[]) rfl
  ⟨rfl,rfl,rfl,rfl,rfl,rfl,rfl,rfl,trivial⟩ ⟨KV _,rfl,st8,⟨rfl,fun i v y hv=>by simp at hv⟩,rfl,hdr,hkkc.2.1,hkkc.2.2,KJ _,KJ _,by simp,by simp⟩ ?_
 have hkk2:n.op = 2 -> kk = []:=fun h=>by rw [hkk,if_pos h]
 clear st8 st0 hdr hkkc hkT hB7 hA7 hR5 hO4 hB3 hB0 hT1
 rintro ⟨i,p,vo,vr,os,rs,rest,ys⟩ w9 ⟨hi,hrl,s,hpc,hys,hdp,hokr,hincr,hol,hrsl,hrs,hyl⟩;simp only at hi hrl s hpc hys hdp hokr hincr hol hrsl hrs hyl;refine ac' (fun g=>?_) (fun g=>?_)
 ·have g:(i:Int) < kk.length:=g
  match rest,hrl with
  | [],hrl=>simp at hrl; omega
  | y :: r,hrl =>
  obtain ⟨hoy,hokr',hincr'⟩:=cd' hokr hincr;have h2:n.op ≠ 2:=fun h2=>by rw [hkk2 h2] at g; simp at g; omega
  have hdp:=hdp h2;simp only [JV] at hrl;simp only [rows] at hdp;refine ld (s.cbn.cl rfl).cell ?_;refine ac' (fun h12=>?_) (fun h12=>?_)
  ·have h12:n.op = 12:=h12
   rw [if_pos h12] at hys;have hoy:Ok .fn y:=by
    rwa [show nx Md.tm n 0 = .fn by simp [nx,h12]] at hoy
   obtain ⟨f,ty,bo',rfl,f13,hfp,hty,hbo'⟩:=hoy.fn;have hb4:1 <= n.b /\ n.b <= 4:=by
    have:inR n.b 1 4 = true:=by simp [ah',h12] at hp; exact hp.1
    exact aF'.1 this
   simp only [row,rows,List.cons_append,List.append_assoc,JD] at hdp;obtain ⟨hfn,hflt,ht9⟩:=iW' hdp;refine ld (s.cba.cl rfl).cell ?_;refine jK' ((p + 1:Nat):Int) (by omega) (by omega) (by simp) ?_;refine st (b:=ba) (o:=0) s.cba (by simp) rfl fun w10 hA10 hs10 hk10=>?_;have hnd:=s.nd;obtain ⟨l1,l2,l3,l4,l5⟩:=s.low;simp only [List.nodup_cons,JJ,JZ,or_false,not_or] at hnd;obtain ⟨⟨n1,n2,n3,n4⟩,⟨n5,n6,n7⟩,⟨n8,n9⟩,n10,_⟩:=hnd;have k010:Kp [] w w10:=s.k0.trans hk10 fun x hx hlt=>by
    simp at hx;omega
   have s10:PtS C w w10 t (some ⟨b,o,none⟩) cap bt ba bo br bn [iV n.op,iV n.a,iV n.b] (p + 1) vo vr os rs :=
    ⟨hS.tr k010,k010,s.low,s.nd,s.cbt.kp hk10 (by simpa using n1),hA10,s.cbo.kp hk10 (by simpa using Ne.symm n5),s.cbr.kp hk10 (by simpa using Ne.symm n6),s.cbn.kp hk10 (by simpa using Ne.symm n7),s.oo.kpG bl' hk10 fun g hg hx=>by
     obtain rfl:g = ba:=by simpa using hx
     exact (s.f1 _ hg).1 (by simp),s.orr.kpG gD' hk10 fun g hg hx=>by
     obtain rfl:g = ba:=by simpa using hx
     exact s.f2 _ hg (by simp),s.f1,s.f2⟩
   have hc1:=lq' hS hsl hcap ty hty (row bo' ++ rows r) (p + 1) ht9 (by omega) 0 (by simp [I64]) s10 (by omega) (by omega);rw [show (#[iV 0,pt bt,pt ba,pt bo,pt br]:Array Value) = #[] ++ [iV 0].toArray ++ [pt bt,pt ba,pt bo,pt br].toArray from (tj' _ _).symm] at hc1;refine ab' hc1 ?_;rintro e w11 ⟨rfl,vo1,vr1,b1,o1,hbo1,s11⟩;injection hbo1 with hbo1
   injection hbo1 with e1 e2
   subst e1 e2;refine ld (s11.cbn.cl rfl).cell ?_;have ht11:t.drop (p + 1 + (row ty).length) = row bo' ++ rows r:=by rw [<- List.drop_drop,ht9,List.drop_left]
   have hlp:=congrArg List.length ht9;rw [List.length_drop,JK,JK] at hlp;have hc2:=lq' hS hsl hcap bo' hbo' (rows r) (p + 1 + (row ty).length) ht11 (by omega) n.b (by unfold I64; omega) s11 (by simp; omega) (by simp; omega);rw [show (#[iV n.b,pt bt,pt ba,pt bo,pt br]:Array Value) = #[] ++ [iV n.b].toArray ++ [pt bt,pt ba,pt bo,pt br].toArray from (tj' _ _).symm] at hc2;refine ab' hc2 ?_;rintro e w12 ⟨rfl,vo2,vr2,b2,o2,hbo2,s12⟩;injection hbo2 with hbo2
   injection hbo2 with e1 e2
   subst e1 e2;refine i6 ?_;refine ⟨(i + 1,p + 1 + (row ty).length + (row bo').length,vo2,vr2,_,_,r,ys ++ [ty,bo']),by simp only; omega,rfl,⟨rfl,rfl,rfl,rfl,rfl,rfl,rfl,rfl,trivial⟩,by simp only; omega,by simp only; omega,s12,?_,?_,fun _=>?_,hokr',hincr',by simp; omega,by simp; omega,?_,?_⟩
   ·have q1:=hpc.snoc (Sl.piece (R:=rNd) hsl ht9) (show (row ty).length <= cap - (p + 1) by omega)
    have q2:=q1.snoc (Sl.piece (R:=rNd) hsl ht11) (show (row bo').length <= cap - (p + 1 + (row ty).length) by omega);show Pcs C _ (ys ++ [ty,bo']);rw [show ys ++ [ty,bo'] = (ys ++ [ty]) ++ [bo'] by simp];exact q2
   ·simp only [if_pos h12] at hys ⊢
    rw [<- hys];simp [Tr.ks,List.append_assoc]
   ·show t.drop (p + 1 + (row ty).length + (row bo').length) = _
    rw [<- List.drop_drop,ht11,List.drop_left]
   ·simp only [if_pos h12] at hrs ⊢
    rw [hrs,show 2 * (i + 1) = 2 * i + 1 + 1 by omega,List.range_succ,List.range_succ];have q1:kbT n (2 * i) = 0:=by unfold kbT; rw [if_pos h12,if_neg (by omega)]
    have q2:kbT n (2 * i + 1) = n.b:=by unfold kbT; rw [if_pos h12,if_pos (by omega)]
    simp [q1,q2]
   ·simp only [if_pos h12] at hyl ⊢
    simp;omega
  ·have h12:¬ n.op = 12:=h12
   rw [if_neg h12] at hys;have hoy:Ok .tm y:=by
    rwa [show nx Md.tm n 0 = .tm by simp [nx,h2,h12]] at hoy
   refine ldN [iV n.op,iV n.a,iV n.b] rfl (bZ s.cbn) ?_;refine ab' (gF' n i w9) ?_;rintro e w10 ⟨rfl,hk10⟩;have s10:PtS C w w10 t (some ⟨b,o,none⟩) cap bt ba bo br bn [iV n.op,iV n.a,iV n.b] p vo vr os rs :=
    ⟨s.sub.tr hk10,s.k0.tr hk10,s.low,s.nd,s.cbt.kp hk10 (by simp),s.cba.kp hk10 (by simp),s.cbo.kp hk10 (by simp),s.cbr.kp hk10 (by simp),s.cbn.kp hk10 (by simp),s.oo.kp hk10,s.orr.kp hk10,s.f1,s.f2⟩
   have hbd:=li' n i;have hlp:=congrArg List.length hdp;rw [List.length_drop,JK] at hlp;have hc1:=lq' hS hsl hcap y hoy (rows r) p hdp (by omega) (aJ' n i) (by unfold I64; omega) s10 (by omega) (by omega);rw [show (#[iV (aJ' n i),pt bt,pt ba,pt bo,pt br]:Array Value) = #[] ++ [iV (aJ' n i)].toArray ++ [pt bt,pt ba,pt bo,pt br].toArray from (tj' _ _).symm] at hc1;refine ab' hc1 ?_;rintro e w11 ⟨rfl,vo1,vr1,b1,o1,hbo1,s11⟩;injection hbo1 with hbo1
   injection hbo1 with e1 e2
   subst e1 e2;refine i6 ?_;refine ⟨(i + 1,p + (row y).length,vo1,vr1,_,_,r,ys ++ [y]),by simp only; omega,rfl,⟨rfl,rfl,rfl,rfl,rfl,rfl,rfl,rfl,trivial⟩,by simp only; omega,by simp only; omega,s11,hpc.snoc (Sl.piece (R:=rNd) hsl hdp) (show (row y).length <= cap - p by have:=ag' y; omega),?_,fun _=>?_,hokr',hincr',by simp; omega,by simp; omega,?_,?_⟩
   ·simp only [if_neg h12] at hys ⊢
    rw [<- hys];simp
   ·show t.drop (p + (row y).length) = _
    rw [<- List.drop_drop,hdp,List.drop_left]
   ·simp only [if_neg h12] at hrs ⊢
    have q1:kbT n i = aJ' n i:=by unfold kbT; rw [if_neg h12]
    rw [hrs,List.range_succ];simp [q1]
   ·simp only [if_neg h12] at hyl ⊢
    simp;omega
 ·have g:¬ (i:Int) < kk.length:=g
  have hr0:rest = []:=List.length_eq_zero_iff.1 (by omega);subst hr0;have e:(if n.op = 12 then ([]:List Tr).flatMap (·.ks) else []) = []:=by split <;> rfl
  rw [e,JD] at hys;subst hys;refine vR' τok (by kernel_rfl) ?_;refine ldR (s.cbo.cl rfl) ?_;refine ldR (s.cbr.cl rfl) ?_;intro m;rw [<- hyl] at hrs;exact ⟨vo,vr,os,rfl,s.oo.kp ((Kp.refl [] w9).dr m),hpc,hrs ▸ s.orr.kp ((Kp.refl [] w9).dr m),s.k0.dr m⟩
def IsTms (ys:List Tr) (w w':World) (v:Value):Prop:=∃ a c,v = .slice a ys.length c /\ Sl (rSk rNd) (New w.heap.size w') a (ys.map row) /\ ys.length <= c
theorem mn' {x:Tr} (hx:Ok .tm x):(kidsT x).length <= 18:=by
 obtain ⟨n,ks⟩:=x;obtain ⟨hc,hok,hi⟩:=hx.kids;obtain ⟨hp,_,_,hkc⟩:=bG' hc;have hkp:=dj' hp;simp only [kidsT];split
 ·simp
 ·rename_i h2
  rw [if_neg h2] at hkc;split
  ·rename_i h12
   have:inR n.b 1 4 = true:=by simp [ah',h12] at hp; exact hp.1
   have hb:=aF'.1 this;have hk:ar' n = n.b:=by simp [ar',h12]
   have h2l:∀ (r:List Tr) (k:Nat),okL cnt nx r n .tm k -> eo' r = true -> (r.flatMap (·.ks)).length = 2 * r.length:=by
    intro r
    induction r with
    | nil=>intros; rfl
    | cons y r ih =>
     intro k hk hi;obtain ⟨hy,_,_⟩:=cd' hk hi;rw [show nx Md.tm n 0 = .fn by simp [nx,h12]] at hy;obtain ⟨f,ty,bo,rfl,_⟩:=hy.fn;simp only [List.flatMap_cons,JK,JV];rw [ih (k + 1) hk.2 (cG' hi).2];simp [Tr.ks];omega
   rw [h2l ks 0 hok hi];omega
  ·omega
mutual
theorem fy':∀ (x:Tr),∀ y ∈ kidsT x,(row y).length < (row x).length
 | .mk n ks=>fun y hy=>by
  simp only [row,JV];simp only [kidsT] at hy;split at hy
  ·cases hy
  ·split at hy
   ·obtain ⟨f,hf,hyf⟩:=List.mem_flatMap.1 hy
    have h1:=eV' hf;obtain ⟨m,l⟩:=f;simp only [Tr.ks] at hyf;have h2:=eV' hyf;simp only [row,JV] at h1;omega
   ·have h1:=eV' hy
    omega
theorem eV':∀ {ks:List Tr} {y:Tr},y ∈ ks -> (row y).length <= (rows ks).length
 | x :: r,y,h=>by
  simp only [rows,JK];rcases List.mem_cons.1 h with rfl | h
  ·omega
  ·have:=eV' h
   omega
end
theorem oG' {C:Mem} {w:World} (hS:Sub C w) (hold:∀ b o v,C b o v -> b < w.heap.size) (x:Tr) (hx:Ok .tm x) (ta:Option Addr) (cap:Nat) (hsl:Sl rNd C ta (row x)) (hcap:(row x).length <= cap) (hlen:(row x).length <= 4096) :
  CC 56 #[.slice ta (row x).length cap] w (fun e w'=>(∃ v,e = .returned v /\ IsTms (kidsT x) w w' v) /\ Kp [] w w'):=by
 refine oF Tryz.func56 ?_;refine cO (args:=[_]) 29 [.tmp 2] τok Tryz.func56 ?_;have hsh:=aR' hS (row x) ta cap hsl;rw [bH' hx hlen] at hsh;refine ab' hsh ?_;rintro e w1 ⟨rfl,hk1⟩;refine ab' (qP' (hS.tr hk1) (fun b o v h=>KZ (hold b o v h) hk1.size) x hx ta cap hsl hcap hlen) ?_;rintro e w2 ⟨vo,vr,os,rfl,hO0,hpc,_,hk2⟩;obtain ⟨a0,c0,rfl,hc0⟩:=hO0.cap;have k02:=hk1.tr hk2;have hkl:=mn' hx;obtain ⟨L,hL⟩:∃ L,L = os.length:=⟨_,rfl⟩
 rw [<- hL] at hc0 hO0 ⊢;have hLk:L = (kidsT x).length:=by rw [hL]; exact hpc.1
 have hsub:=fy' x;refine lp τok (σ:=Nat × List Value) (fun q=>[(3,.slice a0 L c0),(15,iV (L:Int)),(16,iV (q.1:Int))])
  (fun q w'=>q.1 <= L /\ q.2.length = L /\ Own ez' 29 w1.heap.size w' (.slice a0 L c0) q.2 /\ Kp [] w w' /\ ∀ (j:Nat) v y,q.2[j]? = some v -> (kidsT x)[j]? = some y -> ∃ a c,v = .slice a (row y).length c /\ (row y).length <= c /\ (if j < q.1 then Sl rNd (fun b o t=>New w.heap.size w' b o t /\ ∀ g,a0 = some ⟨g,0,none⟩ -> b ≠ g) a (row y) else Sl rNd C a (row y)))
  (fun q=>L - q.1) (0,os) rfl
  ⟨rfl,rfl,rfl,trivial⟩ ⟨KV _,hL.symm,hO0,k02,fun j v y hv hy=>by
   obtain ⟨a,c,h1,h2,h3⟩:=hpc.2 j v y hv hy;exact ⟨a,c,h1,h3,by rw [if_neg (by omega)]; exact h2⟩⟩ ?_
 clear hO0 hk2 k02
 rintro ⟨i,os⟩ w3 ⟨hi,hol,hO,hk3,hall⟩;simp only at hi hol hO hall;refine ac' (fun g=>?_) (fun g=>?_)
 ·have g:(i:Int) < L:=g
  have hlt:i < os.length:=by omega
  obtain ⟨u,hu,_⟩:=af' hlt;obtain ⟨y,hy,_⟩:=af' (l:=kidsT x) (k:=i) (by omega);obtain ⟨ay,cy,rfl,hcy,hsy⟩:=hall i u y hu hy;rw [if_neg (Nat.lt_irrefl _)] at hsy;have hyl:=hsub y (JQ hy);obtain ⟨a1,c1,hv1,hs1⟩:=hO.den (by omega);rw [hol] at hv1;injection hv1 with e1 e2 e3
  subst e1 e3;obtain ⟨bb,oo,ha0,hcell,_⟩:=hs1.val hu;obtain ⟨g0,sn',hvg,hlo0,_⟩:=hO.st (i:=i) (j:=0) (x:=.slice ay (row y).length cy) (y:=.slice ay (row y).length cy) hu (by decide) (u:=.slice ay (row y).length cy) rfl (fun cs h=>⟨by rw [h.1]; rfl,rfl⟩);injection hvg with e4 e5 e6
  rw [e4] at ha0;injection ha0 with ha0
  injection ha0 with ha1 ha2
  subst e4 ha1 ha2;have hgl:=(hO.block g0 (by simp [Value.ownBlock])).2;refine ix i rfl (by omega) ?_;refine ld (New.sub _ _ _ _ _ hcell).cell ?_;refine ab' (gM' (hS.tr hk3) (row y) ay cy hsy (by omega)) ?_;rintro e w4 ⟨⟨v4,rfl,a4,c4,rfl,hs4,hc4⟩,hk4⟩;obtain ⟨g1,cap1,hvg1,hlo1,hst⟩:=(hO.kp hk4).st (i:=i) (j:=0) (x:=.slice ay (row y).length cy) (y:=.slice a4 (row y).length c4) hu (by decide) (u:=.slice a4 (row y).length c4) rfl (fun cs h=>⟨by rw [h.1]; rfl,rfl⟩);injection hvg1 with e7 e8 e9
  injection e7 with e7
  injection e7 with e7
  subst e7;refine ix i rfl (by omega) ?_;refine hst (fun w5 hO5 hs5 hk5=>?_);refine i6 ?_;have k05:Kp [] w w5:=(hk3.tr hk4).trans hk5 fun x hx hlt=>by
   obtain rfl:x = g0:=by simpa using hx
   have:=hk1.size;omega
  have hz4:=hk4.size;refine ⟨(i + 1,os.set i (.slice a4 (row y).length c4)),by simp only; omega,rfl,⟨rfl,rfl,rfl,trivial⟩,by show i + 1 <= L; omega,by simp [hol],hO5,k05,fun j v z hv hz=>?_⟩;simp only at hv
  by_cases hj:j = i
  ·subst hj
   rw [List.getElem?_set_self (by omega)] at hv;obtain rfl:=JB hv;rw [hy] at hz;obtain rfl:=JB hz;refine ⟨a4,c4,rfl,hc4,?_⟩;simp only;rw [if_pos (by omega)];refine hs4.mono fun b o t ht=>⟨⟨KQ hk3.size ht.1,ht.2.kp hk5 (by have:=ht.1; simp; omega)⟩,fun g hg=>?_⟩
   injection hg with hg
   injection hg with hg
   have:=ht.1;omega
  ·rw [List.getElem?_set_ne (by omega)] at hv
   obtain ⟨a',c',h1,h2,h3⟩:=hall j v z hv hz;refine ⟨a',c',h1,h2,?_⟩;simp only
   by_cases hji:j < i
   ·rw [if_pos hji] at h3
    rw [if_pos (by omega)];refine h3.mono fun b o t ht=>⟨⟨ht.1.1,(ht.1.2.kp hk4 (by simp)).kp hk5 (by simpa using ht.2 g0 rfl)⟩,ht.2⟩
   ·rw [if_neg hji] at h3
    rw [if_neg (by omega)];exact h3
 ·have g:¬ (i:Int) < L:=g
  obtain ⟨a1,c1,hv1,hs1⟩:=hO.den (by omega);rw [hol] at hv1;injection hv1 with e1 e2 e3
  subst e1 e3;refine ⟨⟨_,rfl,a0,c0,by rw [hLk]; rfl,Pcs.sl ⟨by rw [hol,hLk],fun j v y hv hy=>?_⟩ (hs1.mono fun b o t ht=>⟨KQ hk1.size ht.1,ht.2⟩),by omega⟩,hk3⟩;obtain ⟨a',c',h1,h2,h3⟩:=hall j v y hv hy;rw [if_pos (by have:=ai' hv; omega)] at h3;exact ⟨a',c',h1,h3.mono fun b o t ht=>ht.1,h2⟩
end Go.Proofs.YtpealcfjbcpoiaaGreat
namespace Tm
open Go Go.Wx Cd
mutual
def headT:Tr -> Tr
 | .mk n ks=>if n.op = 6 then uO' ks (.mk n ks) else .mk n ks
def uO':List Tr -> Tr -> Tr
 | [],x=>x
 | f :: _,_=>headT f
end
mutual
def argsT:Tr -> List Tr
 | .mk n ks=>if n.op = 6 then uP' ks else []
def uP':List Tr -> List Tr
 | []=>[]
 | f :: r=>argsT f ++ r
end
theorem dx' {n:Nd} {ks:List Tr} (hx:Ok .tm (.mk n ks)) (h6:n.op = 6):∃ f a,ks = [f,a] /\ Ok .tm f /\ Ok .tm a:=by
 obtain ⟨hc,hok,hi⟩:=hx.kids;obtain ⟨_,_,_,hkc⟩:=bG' hc;simp [h6,ar'] at hkc
 match ks,hkc with
 | [f,a],_ =>
  obtain ⟨k1,k2,k3⟩:=cd' hok hi;obtain ⟨k4,_,_⟩:=cd' k2 k3;rw [show nx Md.tm n 0 = .tm by simp [nx,h6]] at k1 k4;exact ⟨f,a,rfl,k1,k4⟩
theorem bu' {n:Nd} {f a:Tr} (h6:n.op = 6):headT (.mk n [f,a]) = headT f:=by simp [headT,uO',h6]
theorem bI' {n:Nd} {f a:Tr} (h6:n.op = 6):argsT (.mk n [f,a]) = argsT f ++ [a]:=by simp [argsT,uP',h6]
theorem bv' {n:Nd} {ks:List Tr} (h6:n.op ≠ 6):headT (.mk n ks) = .mk n ks:=by simp [headT,h6]
theorem bJ' {n:Nd} {ks:List Tr} (h6:n.op ≠ 6):argsT (.mk n ks) = []:=by simp [argsT,h6]
theorem Pcs.rev {C:Mem} {os:List Value} {ys:List Tr} (h:Pcs C os ys):Pcs C os.reverse ys.reverse:=by
 obtain ⟨h1,h2⟩:=h;refine ⟨by simp [h1],fun i v y hv hy=>?_⟩;have hi:=ai' hv;rw [List.length_reverse] at hi;rw [List.getElem?_reverse hi] at hv;rw [List.getElem?_reverse (by omega)] at hy;rw [<- h1] at hy;exact h2 _ v y hv hy
theorem Pcs.mono {C D:Mem} {os:List Value} {ys:List Tr} (h:Pcs C os ys) (hc:∀ b o v,C b o v -> D b o v):Pcs D os ys :=
 ⟨h.1,fun i v y hv hy=>by
  obtain ⟨a,c,h1,h2,h3⟩:=h.2 i v y hv hy;exact ⟨a,c,h1,h2.mono hc,h3⟩⟩
end Tm
namespace Go.Proofs.YtpealcfjbcpoiaaGreat
open Go.Wx Cd Tm
theorem mo' {os:List Value} {i j:Nat} {x y:Value} (k:Nat) (hij:i < j) (hj:j < os.length) (hx:os[i]? = some x) (hy:os[j]? = some y):((os.set i y).set j x)[k]? = if k = i then some y else if k = j then some x else os[k]?:=by
 by_cases h1:k = j
 ·subst h1
  rw [List.getElem?_set_self (by simpa using hj),if_neg (by omega),if_pos rfl]
 ·rw [List.getElem?_set_ne (by omega)]
  by_cases h2:k = i
  ·subst h2
   rw [List.getElem?_set_self (by omega),if_pos rfl]
  ·rw [List.getElem?_set_ne (by omega),if_neg h2,if_neg h1]
theorem oH' {lo:Nat} {w:World} {v:Value} {os:List Value} (hO:Own ez' 29 lo w v os) (hl:os.length <= 100000) :
  CC 104 #[v] w (fun e w'=>e = .returned (.tuple #[]) /\ Own ez' 29 lo w' v os.reverse /\ Kp v.ownBlock.toList w w'):=by
 refine oF Tryz.func104 ?_;obtain ⟨a0,c0,rfl,hc0⟩:=hO.cap;refine cO (args:=[_]) 28 [] τok Tryz.func104 ?_;obtain ⟨L,hL⟩:∃ L,L = os.length:=⟨_,rfl⟩
 rw [<- hL] at hO hl hc0 ⊢;refine i6 ?_;refine lp τok (σ:=Nat × List Value) (fun q=>[(0,.slice a0 L c0),(2,iV (q.1:Int)),(3,iV ((L:Int) - 1 - q.1))])
  (fun q w'=>q.1 <= L /\ q.2.length = L /\ Own ez' 29 lo w' (.slice a0 L c0) q.2 /\ Kp (Value.slice a0 L c0).ownBlock.toList w w' /\ ∀ k,k < L -> q.2[k]? = if k < q.1 \/ L <= k + q.1 then os[L - 1 - k]? else os[k]?)
  (fun q=>L - q.1) (0,os) rfl ⟨rfl,rfl,by show some (iV ((L:Int) - 1)) = some (iV ((L:Int) - 1 - (0:Nat))); simp,trivial⟩ ⟨KV _,hL.symm,hO,Kp.refl _ _,fun k hk=>by rw [if_neg (by simp only; omega)]⟩ ?_
 rintro ⟨i,cur⟩ w1 ⟨hi,hcl,hO1,hk1,hcur⟩;simp only at hi hcl hO1 hcur;refine ac' (fun g=>?_) (fun g=>?_)
 ·have g:(i:Int) < (L:Int) - 1 - i:=g
  obtain ⟨j,hj⟩:∃ j:Nat,(L:Int) - 1 - i = j:=⟨((L:Int) - 1 - i).toNat,by omega⟩
  obtain ⟨x,hx,_⟩:=af' (l:=cur) (k:=i) (by omega);obtain ⟨y,hy,_⟩:=af' (l:=cur) (k:=j) (by omega);obtain ⟨a1,c1,hv1,hs1⟩:=hO1.den (by omega);rw [hcl] at hv1;injection hv1 with e1 e2 e3
  subst e1 e3;obtain ⟨b1,o1,ha1,hcx,hx1⟩:=hs1.val hx;obtain ⟨b2,o2,ha2,hcy,hy1⟩:=hs1.val hy;have hcx:=New.sub _ _ _ _ _ hcx;have hcy:=New.sub _ _ _ _ _ hcy;rw [ha1] at ha2;injection ha2 with ha2
  injection ha2 with ha3 ha4
  subst ha3 ha4;obtain ⟨g0,sn',hvg,hlo0,hst⟩:=(hO1.kp ((Kp.refl [] w1).dr (w1.drawn + 1))).st (i:=i) (j:=0) (x:=x) (y:=y) hx (by decide) (u:=y) hy1 (fun cs h=>⟨by rw [h.1]; rfl,hy1⟩);injection hvg with e4 e5 e6
  rw [e4] at ha1;injection ha1 with ha1
  injection ha1 with ha5 ha6
  subst e4 ha5 ha6;rw [hj];refine as' τok (fun z=>Kp [g0] w1 z) ?_;refine rV τok [0,1,2,3,4,5,6,8,9,10] 6 (mB 16 [7,11,12,13,14,15]) ((Kp.refl _ w1).dr _) ?_;refine ix j rfl (by omega) ?_;refine ix i rfl (by omega) ?_;have hcy':=hcy.kp ((Kp.refl [] w1).dr (w1.drawn + 1)) (by simp);have hcx':=hcx.kp ((Kp.refl [] w1).dr (w1.drawn + 1)) (by simp);refine gd' τok 7 11 5 (mR 16 11) (mB 16 [7,12,13,14,15]) rfl rfl rfl rfl rfl (by kernel_rfl) ?_ ?_
  ·refine ld hcy'.cell ?_
   refine ⟨.inl ((Kp.refl _ w1).dr _),?_⟩;refine nV τok 11 4 (mR 16 12) ?_;refine ld hcx'.cell ?_;refine ⟨.inl ((Kp.refl _ w1).dr _),?_⟩;refine nV τok 12 3 (mR 16 13) ?_;refine ix i rfl (by omega) ?_;refine ⟨.inl ((Kp.refl _ w1).dr _),?_⟩;refine nV τok 13 2 (mR 16 14) ?_;refine hst (fun w2 hO2 hs2 hk2=>?_);have hk2:Kp [g0] w1 w2:=hk2.rd;refine ⟨.inl hk2,?_⟩;have hx2:(cur.set i y)[j]? = some y:=by rw [List.getElem?_set_ne (by omega)]; exact hy
   obtain ⟨g1,cap1,hvg1,hlo1,hst1⟩:=hO2.st (i:=j) (j:=0) (x:=y) (y:=x) hx2 (by decide) (u:=x) hx1 (fun cs h=>⟨by rw [h.1]; rfl,hx1⟩);injection hvg1 with e7 e8 e9
   injection e7 with e7
   injection e7 with e7
   subst e7;refine nV τok 14 1 (mR 16 15) ?_;refine ix j rfl (by omega) ?_;refine ⟨.inl hk2,?_⟩;refine nV τok 15 0 (mR 16 16) ?_;refine hst1 (fun w3 hO3 hs3 hk3=>?_);refine ⟨.inr (by kernel_rfl),?_⟩;refine dV ?_;refine i6 ?_;refine jK' ((L:Int) - 1 - ((i + 1:Nat):Int)) (by omega) (by omega) (by omega) ?_;refine ⟨(i + 1,(cur.set i y).set j x),by simp only; omega,rfl,⟨rfl,rfl,rfl,trivial⟩,by show i + 1 <= L; omega,by simp [hcl],hO3,(hk1.trans hk2 fun x hx _=>by simpa [Value.ownBlock] using hx).trans hk3 fun x hx _=>by simpa [Value.ownBlock] using hx,fun k hk=>?_⟩;show ((cur.set i y).set j x)[k]? = if k < i + 1 \/ L <= k + (i + 1) then os[L - 1 - k]? else os[k]?
   rw [mo' k (by omega) (by omega) hx hy];have qi:=hcur i (by omega);have qj:=hcur j (by omega);rw [if_neg (by omega),hx] at qi;rw [if_neg (by omega),hy] at qj
   by_cases h1:k = i
   ·subst h1
    rw [if_pos rfl,if_pos (by omega),show L - 1 - k = j by omega];exact qj
   ·rw [if_neg h1]
    by_cases h2:k = j
    ·subst h2
     rw [if_pos rfl,if_pos (by omega),show L - 1 - k = i by omega];exact qi
    ·rw [if_neg h2,hcur k hk]
     by_cases h3:k < i \/ L <= k + i
     ·rw [if_pos h3,if_pos (by omega)]
     ·rw [if_neg h3,if_neg (by omega)]
  ·refine ld hcx'.cell ?_
   refine ⟨.inl ((Kp.refl _ w1).dr _),?_⟩;refine nV τok 7 4 (mR 16 12) ?_;refine ld hcy'.cell ?_;refine ⟨.inl ((Kp.refl _ w1).dr _),?_⟩;refine nV τok 12 3 (mR 16 13) ?_;refine ix i rfl (by omega) ?_;refine ⟨.inl ((Kp.refl _ w1).dr _),?_⟩;refine nV τok 13 2 (mR 16 14) ?_;refine hst (fun w2 hO2 hs2 hk2=>?_);have hk2:Kp [g0] w1 w2:=hk2.rd;refine ⟨.inl hk2,?_⟩;have hx2:(cur.set i y)[j]? = some y:=by rw [List.getElem?_set_ne (by omega)]; exact hy
   obtain ⟨g1,cap1,hvg1,hlo1,hst1⟩:=hO2.st (i:=j) (j:=0) (x:=y) (y:=x) hx2 (by decide) (u:=x) hx1 (fun cs h=>⟨by rw [h.1]; rfl,hx1⟩);injection hvg1 with e7 e8 e9
   injection e7 with e7
   injection e7 with e7
   subst e7;refine nV τok 14 1 (mR 16 15) ?_;refine ix j rfl (by omega) ?_;refine ⟨.inl hk2,?_⟩;refine nV τok 15 0 (mR 16 16) ?_;refine hst1 (fun w3 hO3 hs3 hk3=>?_);refine ⟨.inr (by kernel_rfl),?_⟩;refine dV ?_;refine i6 ?_;refine jK' ((L:Int) - 1 - ((i + 1:Nat):Int)) (by omega) (by omega) (by omega) ?_;refine ⟨(i + 1,(cur.set i y).set j x),by simp only; omega,rfl,⟨rfl,rfl,rfl,trivial⟩,by show i + 1 <= L; omega,by simp [hcl],hO3,(hk1.trans hk2 fun x hx _=>by simpa [Value.ownBlock] using hx).trans hk3 fun x hx _=>by simpa [Value.ownBlock] using hx,fun k hk=>?_⟩;show ((cur.set i y).set j x)[k]? = if k < i + 1 \/ L <= k + (i + 1) then os[L - 1 - k]? else os[k]?
   rw [mo' k (by omega) (by omega) hx hy];have qi:=hcur i (by omega);have qj:=hcur j (by omega);rw [if_neg (by omega),hx] at qi;rw [if_neg (by omega),hy] at qj
   by_cases h1:k = i
   ·subst h1
    rw [if_pos rfl,if_pos (by omega),show L - 1 - k = j by omega];exact qj
   ·rw [if_neg h1]
    by_cases h2:k = j
    ·subst h2
     rw [if_pos rfl,if_pos (by omega),show L - 1 - k = i by omega];exact qi
    ·rw [if_neg h2,hcur k hk]
     by_cases h3:k < i \/ L <= k + i
     ·rw [if_pos h3,if_pos (by omega)]
     ·rw [if_neg h3,if_neg (by omega)]
 ·have g:¬ (i:Int) < (L:Int) - 1 - i:=g
  have e:cur = os.reverse:=by
   refine List.ext_getElem? fun k=>?_
   by_cases hk:k < L
   ·rw [hcur k hk,List.getElem?_reverse (by omega),<- hL]
    split
    ·rfl
    ·rw [show L - 1 - k = k by omega]
   ·rw [List.getElem?_eq_none (by omega),List.getElem?_eq_none (by simp; omega)]
  subst e;exact ⟨rfl,hO1,hk1⟩
theorem iq' {P:Program} {τ:Tau} (hτ:ax' P τ) {T e sz bs:Nat} (hs:Go.Wx.look τ.slcs T = some (e,sz,bs)) {a:Option Addr} {len cap:Nat} {w:World} {k:Value -> World -> Prop} {j j':IntKind} {i i':Int} (l h:Nat) (v:Value) (hi:i = l) (hi':i' = h) (h1:l <= h) (h2:h <= cap) (hv:sliced a l h cap sz = v) (hk:k v w):EvRun P (Instr.sliceAt T (.slice a len cap) (some (.int j i)) (some (.int j' i')) none) w k:=by
 subst hv;exact vS' hτ hs l h hi hi' h1 h2 hk
theorem dT':∀ (N:Nat) (x:Tr),(row x).length <= N -> Ok .tm x -> (row (headT x)).length <= (row x).length /\ (argsT x).length + (row (headT x)).length <= (row x).length /\ Ok .tm (headT x) /\ ∀ y ∈ argsT x,Ok .tm y /\ (row y).length < (row x).length
 | 0,x,h,_=>by have:=ag' x; omega
 | N + 1,.mk n ks,h,hx=>by
  by_cases h6:n.op = 6
  ·obtain ⟨f,a,rfl,hf,ha⟩:=dx' hx h6
   have hr:(row (.mk n [f,a])).length = 1 + (row f).length + (row a).length:=by simp [row,rows]; omega
   obtain ⟨i1,i2,i3,i4⟩:=dT' N f (by omega) hf;rw [bu' h6,bI' h6,hr];have hp:=ag' a;refine ⟨by omega,by simp only [JK,JV,JU]; omega,i3,fun y hy=>?_⟩;rcases List.mem_append.1 hy with hy | hy
   ·obtain ⟨q1,q2⟩:=i4 y hy
    exact ⟨q1,by omega⟩
   ·obtain rfl:y = a:=by simpa using hy
    exact ⟨ha,by omega⟩
  ·rw [bv' h6,bJ' h6]
   exact ⟨KJ _,by simp,hx,fun y hy=>by cases hy⟩
theorem oI' {C:Mem} {w:World} (hS:Sub C w) (hold:∀ b o v,C b o v -> b < w.heap.size) (x:Tr) (hx:Ok .tm x) (ta:Option Addr) (cap:Nat) (hsl:Sl rNd C ta (row x)) (hcap:(row x).length <= cap) (hlen:(row x).length <= 4096) :
  CC 82 #[.slice ta (row x).length cap] w (fun e w'=>(∃ v u,e = .returned (.tuple #[v,u]) /\ IsTm (headT x) w w' v /\ IsTms (argsT x) w w' u) /\ Kp [] w w'):=by
 refine oF Tryz.func82 ?_;refine cO (args:=[_]) 31 [.tmp 2,.tmp 3] τok Tryz.func82 ?_;have hsh:=aR' hS (row x) ta cap hsl;rw [bH' hx hlen] at hsh;refine ab' hsh ?_;rintro e w1 ⟨rfl,hk1⟩;have hall:=dT' (row x).length x (KJ _) hx;refine lp τok (σ:=Tr × Option Addr × Nat × Value × List Value × List Tr) (fun q=>[(0,.slice q.2.1 (row q.1).length q.2.2.1),(4,q.2.2.2.1)])
  (fun q w'=>Ok .tm q.1 /\ (row q.1).length <= (row x).length /\ Sl rNd C q.2.1 (row q.1) /\ (row q.1).length <= q.2.2.1 /\ Own ez' 29 w1.heap.size w' q.2.2.2.1 q.2.2.2.2.1 /\ Kp [] w w' /\ Pcs (fun b o t=>New w.heap.size w' b o t /\ q.2.2.2.1.ownBlock ≠ some b) q.2.2.2.2.1 q.2.2.2.2.2 /\ headT q.1 = headT x /\ argsT q.1 ++ q.2.2.2.2.2.reverse = argsT x)
  (fun q=>(row q.1).length) (x,ta,cap,.slice none 0 0,[],[]) rfl
  ⟨rfl,rfl,trivial⟩ ⟨hx,KJ _,hsl,hcap,Own.nil _ _ (KJ _),hk1,⟨rfl,fun i v y hv=>by simp at hv⟩,rfl,by simp⟩ ?_
 rintro ⟨⟨n,ks⟩,a,c,vo,os,ys⟩ w2 ⟨hok,hrl,hsa,hca,hO,hk2,hpc,hhd,har⟩;simp only at hok hrl hsa hca hO hpc hhd har;have hn:(row (.mk n ks))[0]? = some n:=by simp [row]
 obtain ⟨b,o,rfl,i1,i2,i3,hcells⟩:=ft' hsa hn;have hS2:=hS.tr hk2;have hpos:=ag' (.mk n ks);have hol:os.length <= 4096:=by
  have:=congrArg List.length har;rw [JK,List.length_reverse,<- hpc.1] at this;have:=hall.2.1;omega
 refine ix 0 rfl hpos ?_;refine ld (hS2 _ _ _ (hcells 0 _ rfl)).cell ?_;refine ac' (fun h6=>?_) (fun h6=>?_)
 ·have h6:n.op = 6:=h6
  obtain ⟨f,u,rfl,hf,hu⟩:=dx' hok h6;have hr:row (.mk n [f,u]) = n :: (row f ++ row u):=by simp [row,rows]
  rw [bu' h6] at hhd;rw [bI' h6] at har;obtain ⟨T,hT⟩:∃ T,row (.mk n [f,u]) = T:=⟨_,rfl⟩
  rw [hT] at hsa hca hrl hpos hn ⊢;rw [hr] at hT;have hTl:T.length = 1 + (row f).length + (row u).length:=by rw [<- hT]; simp; omega
  have hd1:T.drop 1 = row f ++ row u:=by rw [<- hT]; rfl
  have hd2:T.drop (1 + (row f).length) = row u ++ []:=by rw [<- List.drop_drop,hd1,List.drop_left,JD]
  have hend:qF' T 1 = ((1 + (row f).length:Nat):Int):=by
   have h1:=lg' hf [n] (row u);rw [show [n] ++ (row f ++ row u) = T by rw [<- hT]; rfl] at h1;rw [show (1:Int) = ((1:Nat):Int) from rfl,cR',show (1:Nat) = [n].length from rfl,h1]
   rfl
  have hpu:=ag' u;have hpf:=ag' f;have hec:=iU' T _ c hsa T.length w2 hS2 1 (by decide) (by decide) (fun _=>by omega);rw [hend] at hec;refine ab' hec ?_;rintro e w3 ⟨rfl,hk3⟩;refine jV' τok rfl (1 + (row f).length) (.slice (some ⟨b,o + (1 + (row f).length) * 3,none⟩) (row u).length (c - (1 + (row f).length))) rfl (show 1 + (row f).length <= T.length by omega) (show sliced (some ⟨b,o,none⟩) (1 + (row f).length) T.length c 3 = _ by rw [gC' (by omega),show T.length - (1 + (row f).length) = (row u).length by omega]) ?_;refine ab' (gM' (hS2.tr hk3) (row u) _ _ (Sl.piece (R:=rNd) hsa hd2) (by omega)) ?_;rintro e w4 ⟨⟨v4,rfl,a4,c4,rfl,hs4,hc4⟩,hk4⟩;refine fill [.slice a4 (row u).length c4] rfl ?_;refine new fun bx w5 hbx hX hs5 hk5=>?_;have k25:=(hk3.tr hk4).tr hk5;have hO5:=hO.kp k25;refine hO5.ap1 τok rfl rfl (by decide) (.slice a4 (row u).length c4) [.slice a4 (row u).length c4] ⟨rfl,rfl⟩ (bZ hX) (by omega) (by simp only [maxLen]; omega) fun v6 w6 hO6 hk6 hl6=>?_;refine iq' τok rfl 1 (1 + (row f).length) (.slice (some ⟨b,o + 1 * 3,none⟩) (row f).length (c - 1)) rfl rfl (show 1 <= 1 + (row f).length by omega) (show 1 + (row f).length <= c by omega) (show sliced (some ⟨b,o,none⟩) 1 (1 + (row f).length) c 3 = _ by rw [eT' (by omega),Nat.add_sub_cancel_left]) ?_;have k06:Kp [] w w6:=(hk2.tr k25).trans hk6 fun x hx hlt=>by
   have h1:vo.ownBlock = some x:=by simpa using hx
   have:=(hO.block x h1).1;have:=hk1.size;omega
  have hvb:∀ g,vo.ownBlock = some g -> g < w2.heap.size:=fun g hg=>(hO.block g hg).2;have hz25:=k25.size;have hz5:=hk5.size;have hz3:=hk3.size;refine ⟨(f,some ⟨b,o + 1 * 3,none⟩,c - 1,v6,os ++ [.slice a4 (row u).length c4],ys ++ [u]),?_,rfl,⟨rfl,rfl,trivial⟩,hf,by simp only; omega,Sl.piece (R:=rNd) hsa hd1,by simp only; omega,hO6,k06,?_,hhd,?_⟩
  ·show (row f).length < T.length
   omega
  ·refine Pcs.snoc (hpc.mono fun b o t ht=>?_) (hs4.mono fun b o t ht=>?_) hc4
   ·have hne:b ∉ vo.ownBlock.toList:=fun h=>ht.2 (by simpa using h)
    have hlt:b < w2.heap.size:=ht.1.2.cl.lt;refine ⟨⟨ht.1.1,(ht.1.2.kp k25 (by simp)).kp hk6 hne⟩,fun hq=>?_⟩;rcases hl6 with q | q
    ·rw [q] at hq; exact ht.2 hq
    ·rw [q] at hq
     have:=JB hq;omega
   ·have h1:=ht.1
    have hlt:b < w4.heap.size:=ht.2.cl.lt;refine ⟨⟨by have:=hk2.size; omega,(ht.2.kp hk5 (by simp)).kp hk6 fun h=>?_⟩,fun hq=>?_⟩
    ·have:=hvb b (by simpa using h)
     omega
    ·rcases hl6 with q | q
     ·rw [q] at hq
      have:=hvb b hq;omega
     ·rw [q] at hq
      have:=JB hq;omega
  ·simp only [List.reverse_append,List.reverse_cons,List.reverse_nil,List.nil_append]
   rw [<- har];simp
 ·have h6:¬ n.op = 6:=h6
  rw [bv' h6] at hhd;rw [bJ' h6,List.nil_append] at har;refine ab' (oH' hO (by omega)) ?_;rintro e w3 ⟨rfl,hO3,hk3⟩;have hnewown:∀ g,vo.ownBlock = some g -> w.heap.size <= g:=fun g hg=>by
   have:=(hO.block g hg).1;have:=hk1.size;omega
  have k03:Kp [] w w3:=hk2.trans hk3 fun x hx hlt=>by
   have:=hnewown x (by simpa using hx);omega
  have hS3:=hS.tr k03;refine ab' (gM' hS3 (row (.mk n ks)) _ c hsa (by omega)) ?_;rintro e w4 ⟨⟨v4,rfl,hv4⟩,hk4⟩;have hO4:=hO3.kp hk4;obtain ⟨a5,c5,hv5,hc5⟩:=hO4.cap;obtain ⟨a6,c6,hv6,hs6⟩:=hO4.den (by rw [List.length_reverse]; omega);rw [hv5] at hv6;injection hv6 with e1 e2 e3
  subst e1 e3;refine ⟨⟨_,_,rfl,?_,a5,c5,?_,Pcs.sl ?_ (hs6.mono fun b o t ht=>⟨KQ hk1.size ht.1,ht.2⟩),?_⟩,k03.tr hk4⟩
  ·rw [<- hhd]
   obtain ⟨a,c,h1,h2,h3⟩:=hv4;exact ⟨a,c,h1,h2.mono fun b o t ht=>⟨KQ k03.size ht.1,ht.2⟩,h3⟩
  ·have hv:vo = .slice a5 os.reverse.length c5:=hv5
   exact hv.trans (by rw [<- har,List.length_reverse,List.length_reverse,hpc.1])
  ·rw [<- har]
   refine hpc.rev.mono fun b o t ht=>⟨ht.1.1,(ht.1.2.kp hk3 fun h=>ht.2 (by simpa using h)).kp hk4 (by simp)⟩
  ·rw [<- har,List.length_reverse,<- hpc.1]
   rw [List.length_reverse] at hc5;exact hc5
theorem sn' {T e sz bs ty:Nat} (hs:Go.Wx.look τ.slcs T = some (e,sz,bs)) {a:Option Addr} {n c:Nat} {w:World} {k:Value -> World -> Prop} (h:k (iV c) w):EvRun Tryz.prog (Builtin.cap_ #[T] ty #[.slice a n c]) w k:=by
 obtain ⟨hu,_⟩:=τok.slcs T e sz bs hs;exact run (by simp [Builtin.cap_,run_underlying hu,goInt]) h
theorem np' (z:Array Value) (n:Nat):(Builtin.zeroCells z n).size = n * z.size:=by simp [Builtin.zeroCells]
theorem apZ {α:Type} {R:Rd α} {T e bs:Nat} {z:List Value} (hs:Go.Wx.look τ.slcs T = some (e,R.sz,bs)) (hz:τ.zero e = some z) (hpos:0 < R.sz) (hzl:z.length = R.sz) (hbs0:bs <= 100) {w:World} {k:Value -> World -> Prop} (n:Nat) (h0:0 < n) (hn:n <= 1000000) {ty:Nat} (hk:∀ B G w',B = w.heap.size -> n <= G -> Own R e w.heap.size w' (.slice (some ⟨B,0,none⟩) 0 G) [] -> Kp [] w w' -> k (.slice (some ⟨B,0,none⟩) n G) w') :
  EvRun Tryz.prog (Builtin.append_ #[T,3] ty #[.slice none 0 0,iV (n:Int)]) w k:=by
 obtain ⟨hu,inf,hinf,hsize,hbs⟩:=τok.slcs T e R.sz bs hs;obtain ⟨inf',v0,hinf',hv,hcz,hsz'⟩:=du' τok (T:=e) (z:=z) hz;have:inf' = inf:=by rw [hinf'] at hinf; simpa using hinf
 subst this;have hvs:v0.cells.size = R.sz:=by rw [hcz]; simpa using hzl
 have hnb:n * bs <= 1000000 * 100:=Nat.mul_le_mul hn hbs0;have h:=Lib.run_append_grow_zeros (P:=Tryz.prog) w T 3 ty e inf' v0 .i64 .i64 hu Tryz.underlying3 hinf' hv none 0 0 [] (run_firstCells_none (w:=w.drew) inf'.size 0 0 0) n h0 (by omega) (by omega) (by simp; omega) (by rw [hbs]; exact KQ hnb (by decide))
  (by rw [hbs]; exact growslice_fits (by omega) (by rw [KW]; exact KQ hnb (by decide)))
 rw [KW] at h;have hG:=grownCap_ge w n 0 e;have hGm:=grownCap_le_maxLen w n 0 e (by unfold maxLen; omega)
 generalize grownCap w n 0 e = G at h hG hGm
 have hk0:Kp [] w (w.drew.alloc (.cells (#[] ++ Builtin.zeroCells v0.cells n ++ Builtin.zeroCells v0.cells (G - n)) e)):=⟨rfl,rfl,rfl,by
  show w.heap.size <= (w.heap.push _).size;simp,fun b hb _=>by
  show (w.heap.push _)[b]? = _;rw [Array.getElem?_push_lt hb]; simp [hb]⟩
 refine run h (hk _ _ _ rfl hG ⟨⟨[],⟨by simp,.inr ⟨w.heap.size,G,#[] ++ Builtin.zeroCells v0.cells n ++ Builtin.zeroCells v0.cells (G - n),rfl,KJ _,?_,by simp,hGm,?_,by simp⟩⟩,trivial⟩,?_⟩ hk0)
 ·show (w.heap.push _)[w.heap.size]? = _
  simp
 ·have:n * R.sz + (G - n) * R.sz = G * R.sz:=by rw [<- Nat.add_mul,Nat.add_sub_cancel' hG]
  simp [np',hvs,this]
 ·show w.heap.size <= (w.heap.push _).size
  simp
theorem qQ' (n:Nat) (h0:0 < n) (hn:n <= 1000000) (w:World) :
  CC 109 #[.slice none 0 0,iV (n:Int)] w (fun e w'=>∃ v,e = .returned v /\ Own rNd 45 w.heap.size w' v [] /\ Kp [] w w'):=by
 refine oF Tryz.func109 ?_;refine cO (args:=[_,_]) 27 [.tmp 4] τok Tryz.func109 ?_;refine sn' rfl ?_;refine i6 ?_;refine i6 ?_;refine ac' (fun g=>?_) (fun g=>?_);rotate_left
 ·exact absurd (by omega) g
 refine sn' rfl ?_;refine nk' τok rfl 0 (.slice none 0 0) rfl (KJ _) rfl ?_;have e:((n:Int) - ((0:Nat) - (0:Nat):Int)) = (n:Int):=by omega
 rw [e];refine apZ (R:=rNd) rfl rfl (by decide) rfl (by decide) n h0 hn fun B G w1 hB hG hO hk=>?_;refine nk' τok rfl 0 _ rfl (KV _) dQ' ?_;exact ⟨_,rfl,hO,hk⟩
theorem fz' {D:Mem} {w:World} (hD:Sub D w) (ls:List (List Nd)) (a:Option Addr) (cap:Nat) (hl:Sl (rSl rNd) D a ls) (hlen:ls.length <= 100000) (hsum:(ls.map List.length).sum <= 1000000) (hpos:0 < (ls.map List.length).sum) :
  CC 93 #[.slice a ls.length cap] w (fun e w'=>∃ v,e = .returned v /\ Own rNd 45 w.heap.size w' v ls.flatten /\ Kp [] w w'):=by
 refine oF Tryz.func93 ?_;refine cO (args:=[_]) 36 [.tmp 2] τok Tryz.func93 ?_;have hDl:=hD.lt;have hpart:∀ k,((ls.take k).map List.length).sum + ((ls.drop k).map List.length).sum = (ls.map List.length).sum:=fun k=>by
  rw [<- List.sum_append,<- List.map_append,List.take_append_drop]
 refine lp τok (σ:=Nat) (fun k=>[(0,.slice a ls.length cap),(3,iV (((ls.take k).map List.length).sum:Nat)),(9,.slice a ls.length cap),(10,iV ls.length),(11,iV k)]) (fun k w'=>k <= ls.length /\ w' = w) (fun k=>ls.length - k) 0 rfl
  ⟨rfl,rfl,rfl,rfl,rfl,trivial⟩ ⟨KV _,rfl⟩ ?_
 rintro k w1 ⟨hk,rfl⟩;refine ac' (fun g1=>?_) (fun g1=>?_)
 ·have hlt:k < ls.length:=by omega
  obtain ⟨x,hx,hd⟩:=af' hlt;have e1:((ls.take (k + 1)).map List.length).sum = ((ls.take k).map List.length).sum + x.length:=by rw [al' hx]; simp
  have hp:=hpart (k + 1);obtain ⟨b,o,rfl,ax,cx,hcell,hsl⟩:=hl.sl hx;refine ix k rfl hlt ?_;refine ldC hD hcell ?_;refine i6 ?_;refine i6 ?_;refine ⟨k + 1,by omega,rfl,⟨rfl,?_,rfl,rfl,rfl,trivial⟩,hlt,rfl⟩;rw [e1]
  rfl
 have e2:ls.take k = ls:=JG (by omega);rw [e2];refine ab' (qQ' _ hpos hsum w1) ?_;rintro e w2 ⟨v2,rfl,hO2,hk2⟩;refine lp τok (σ:=Nat × Value) (fun q=>[(6,q.2),(25,.slice a ls.length cap),(26,iV ls.length),(27,iV q.1)]) (fun q w'=>q.1 <= ls.length /\ Own rNd 45 w1.heap.size w' q.2 (ls.take q.1).flatten /\ Kp [] w1 w') (fun q=>ls.length - q.1) (0,v2) rfl
  ⟨rfl,rfl,rfl,rfl,trivial⟩ ⟨KV _,by simpa using hO2,hk2⟩ ?_
 clear hO2
 rintro ⟨k,v⟩ w3 ⟨hk,hO,hk3⟩;simp only at hk hO;refine ac' (fun g2=>?_) (fun g2=>?_)
 ·have hlt:k < ls.length:=by omega
  obtain ⟨x,hx,hd⟩:=af' hlt;have e1:(ls.take (k + 1)).flatten = (ls.take k).flatten ++ x:=by rw [al' hx]; simp
  have hp:=hpart (k + 1);have e3:((ls.take (k + 1)).map List.length).sum = (ls.take k).flatten.length + x.length:=by rw [<- List.length_flatten,e1]; simp
  obtain ⟨b,o,rfl,ax,cx,hcell,hsl⟩:=hl.sl hx;refine ix k rfl hlt ?_;refine ldC (hD.tr hk3) hcell ?_;refine hO.apF τok rfl rfl (by decide) cy' (hD.tr hk3) x hsl (by omega) (by unfold maxLen; omega) fun v' w4 hO4 hk4 _=>?_;refine i6 ?_;refine ⟨(k + 1,v'),by simp only; omega,rfl,⟨rfl,rfl,rfl,rfl,trivial⟩,hlt,?_,hk3.own hk4 hO⟩;rw [e1];exact hO4
 ·rw [JG (by omega)] at hO
  exact ⟨v,rfl,hO,hk3⟩
end Go.Proofs.YtpealcfjbcpoiaaGreat
