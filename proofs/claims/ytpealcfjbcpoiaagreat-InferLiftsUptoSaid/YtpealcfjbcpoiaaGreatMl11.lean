import Derived.Test.YtpealcfjbcpoiaaGreatMl10
import Derived.Shelf.SlIterI.Nil
import Derived.Shelf.SortM.Plain
import Derived.Shelf.SortM.SortNone
import Derived.Maps.OwnSet
import Derived.Maps.Range
import Derived.Lib.AppendZerosOnto
set_option linter.unusedVariables false
set_option linter.unusedSimpArgs false
set_option maxRecDepth 100000
set_option maxHeartbeats 4000000
namespace Go.Proofs.YtpealcfjbcpoiaaGreat
open Go.Wx Cd Tm Lv
section
variable {w w':World} {X Y:List Nat} {B:BoT} {cx:Ctx} {bm n:Nat}
theorem FoV.mono {C D:Mem} {x:Tr} {h u:Value} (hf:FoV C x h u) (hc:∀ b o v,C b o v -> D b o v):FoV D x h u:=⟨hf.1.mono hc,hf.2.mono hc⟩
theorem FoV.vals {C:Mem} {x:Tr} {h u:Value} (hf:FoV C x h u):∃ a c a' c',h = .slice a (row (headT x)).length c /\ u = .slice a' (argsT x).length c':=by
 obtain ⟨⟨a,c,h1,_⟩,⟨a',c',h2,_⟩⟩:=hf;exact ⟨a,c,a',c',h1,h2⟩
theorem MacV.mono {v1 v2 v3 v4:Value} {C D:Mem} (h:MacV v1 v2 v3 v4 C w bm B cx n) (hc:∀ b o v,C b o v -> D b o v):MacV v1 v2 v3 v4 D w bm B cx n:=⟨h.1,h.2.1.mono hc,h.2.2.1.mono hc,h.2.2.2.1.mono hc,h.2.2.2.2.mono hc⟩
theorem MacV.kp {v1 v2 v3 v4:Value} {C:Mem} (h:MacV v1 v2 v3 v4 C w bm B cx n) {Z:List Nat} (k:Kp Z w w') (hb:bm ∉ Z):MacV v1 v2 v3 v4 C w' bm B cx n:=⟨h.1.kp k hb,h.2⟩
end
def ImN (lo:Nat) (X:List Nat) (w:World):Mem:=fun b o v=>Im X w b o v /\ New lo w b o v
section
variable {lo:Nat} {X:List Nat} {w w':World}
theorem ImN.tr {b o:Nat} {v:Value} (h:ImN lo X w b o v) (k:Kp [] w w'):ImN lo X w' b o v:=⟨h.1.tr k,h.2.1,h.2.2.kp k (by simp)⟩
theorem ImN.kp {Y:List Nat} {b o:Nat} {v:Value} (h:ImN lo X w b o v) (k:Kp Y w w') (hY:∀ y ∈ Y,y < w.heap.size -> y ∈ X):ImN lo X w' b o v:=⟨h.1.kp k hY,h.2.1,h.2.2.kp k fun hb=>h.1.2 (hY b hb h.1.hold)⟩
theorem ImN.sub (lo:Nat) (X:List Nat) (w:World):Sub (ImN lo X w) w:=fun _ _ _ h=>h.1.1
theorem ImN.of_new (hX:∀ x ∈ X,x < w.heap.size) (hlo:lo <= w.heap.size) {b o:Nat} {v:Value} (h:New w.heap.size w' b o v):ImN lo X w' b o v:=⟨Im.of_new hX h,KQ hlo h.1,h.2⟩
theorem FoV.im {x:Tr} {h u:Value} (hf:FoV (ImN lo X w) x h u):FoV (Im X w) x h u:=hf.mono fun _ _ _ h=>h.1
theorem IsTm.tvN {x:Tr} {v:Value} (h:IsTm x w w' v) (hX:XL X w) (hlo:lo <= w.heap.size):TmV (ImN lo X w') x v:=TmV.mono h fun _ _ _ h=>ImN.of_new hX hlo h
theorem IsTms.tvN {x:List Tr} {v:Value} (h:IsTms x w w' v) (hX:XL X w) (hlo:lo <= w.heap.size):TmsV (ImN lo X w') x v:=TmsV.mono h fun _ _ _ h=>ImN.of_new hX hlo h
end
def wq' (v1 v2 v3 v4:Value) (lo:Nat) (X:List Nat) (w:World) (bm:Nat) (B:BoT) (cx:Ctx) (r:Except Int (Tr × Nat)) (e:Ending) (w':World):Prop :=
 (match r with
  | .ok q=>∃ h u,e = .returned (.agg #[h,u]) /\ FoV (ImN lo X w') q.1 h u /\ MacV v1 v2 v3 v4 (Im X w') w' bm B cx q.2
  | .error er=>e = .panicked (dA' er)) /\ Kp [bm] w w'
section
variable {B:BoT} {cx:Ctx} {bm:Nat} {v1 v2 v3 v4:Value}
theorem tx' (hB:GoodB B) (hcx:CxOk B cx) (hcl:cx.length <= 90000):∀ (G lo:Nat) (X:List Nat) (w:World) (x:Tr) (room:Int) (n:Nat) (h u:Value),lo <= w.heap.size -> (XL X w) -> bm ∈ X -> MacV v1 v2 v3 v4 (Im X w) w bm B cx n -> Ft (QB B) (cx.length:Int) x -> len x <= room -> room <= 4096 -> n <= 1000000 -> n * 5000 + (row x).length <= G -> FoV (ImN lo X w) x h u ->
  CC 101 #[pt bm,.agg #[h,u],.int .i64 room] w (wq' v1 v2 v3 v4 lo X w bm B cx (bb' B cx G x room n)):=by
 intro G
 induction G using Nat.strongRecOn with
 | _ G ih =>
 intro lo X w x room n h u hlo hX hbm hM hx hl hr hn hG hf;refine oF Tryz.func101 ?_;have hbml:=hX bm hbm;obtain ⟨RES,hRES⟩:∃ r,bb' B cx G x room n = r:=⟨_,rfl⟩
 rw [hRES];have hff:=hf;obtain ⟨ah,ch,au,cu,rfl,rfl⟩:=hf.vals;refine cO (args:=[_,_,_]) 53 [.cell 6 161] τok Tryz.func101 ?_;refine new fun b4 w1 hb4 h4 hs1 hk1=>?_;have h4:Bk w1.heap b4 [.slice ah (row (headT x)).length ch,.slice au (argsT x).length cu] 161:=h4;refine new fun b6 w2 hb6 h6 hs2 hk2=>?_;have k02:=hk1.tr hk2;have h4:=h4.kp hk2 (by simp);have hX2:∀ b ∈ b4 :: b6 :: X,b < w2.heap.size:=fun b hb=>by
  simp only [JJ] at hb;rcases hb with rfl | rfl | hb
  ·omega
  ·omega
  ·have:=hX b hb; have:=k02.size; omega
 have up0:∀ b o v,Im X w b o v -> Im (b4 :: b6 :: X) w2 b o v:=fun b o v h=>Im.more (X:=X) (fun y hy=>by
  simp only [JJ] at hy;rcases hy with rfl | rfl | hy
  ·exact .inr (by omega)
  ·exact .inr (by omega)
  ·exact .inl hy) h |>.tr k02
 have hbm2:bm ∈ b4 :: b6 :: X:=by simp [hbm]
 have up0N:∀ b o v,ImN lo X w b o v -> ImN lo (b4 :: b6 :: X) w2 b o v:=fun b o v h=>⟨up0 b o v h.1,h.2.1,h.2.2.kp k02 (by simp)⟩
 refine uF' (σ:=Nat × Tr × Nat × Value × Value) (fun _=>[(0,pt bm),(2,.int .i64 room),(4,pt b4),(6,pt b6)])
  (fun q w'=>q.1 <= G /\ q.2.2.1 * 5000 + (row q.2.1).length <= q.1 /\ q.2.2.1 <= n /\ bb' B cx q.1 q.2.1 room q.2.2.1 = RES /\ Ft (QB B) (cx.length:Int) q.2.1 /\ len q.2.1 <= room /\ FoV (ImN lo (b4 :: b6 :: X) w') q.2.1 q.2.2.2.1 q.2.2.2.2 /\ MacV v1 v2 v3 v4 (Im (b4 :: b6 :: X) w') w' bm B cx q.2.2.1 /\
   Bk w'.heap b4 [q.2.2.2.1,q.2.2.2.2] 161 /\ Kp [b4,bm] w2 w' /\ (∃ z1 z2,Bk w'.heap b6 [z1,z2] 161)) (fun q=>q.1) (G,x,n,_,_) rfl
  ⟨rfl,rfl,rfl,rfl,trivial⟩ ⟨KJ _,hG,KJ _,hRES,hx,hl,hff.mono up0N,MacV.kp (MacV.mono hM up0) k02 (by simp),h4,Kp.refl _ _,_,_,h6⟩ ?_
 rintro ⟨g,y,m,vh,vu⟩ w3 ⟨hgG,hmG,hmn,hres,hy,hyl,hyf,hyM,h4,k23,z1,z2,h6⟩;simp only at hgG hmG hmn hres hy hyl hyf hyM h4
 clear hRES
 have hyp:=ag' y;obtain ⟨g',rfl⟩:∃ g',g = g' + 1:=⟨g - 1,by omega⟩
 have hlo3:lo <= w3.heap.size:=by have:=k02.size; have:=k23.size; omega
 have hX3:∀ b ∈ b4 :: b6 :: X,b < w3.heap.size:=xU hX2 k23;obtain ⟨ah,ch,au,cu,rfl,rfl⟩:=hyf.vals;have fin:∀ {w'},Kp [b4,bm] w2 w' -> Kp [bm] w w':=fun k=>(k02.weak (Y:=[bm]) (by simp)).trans k fun x hx hl=>by
  simp only [JJ,JZ,or_false] at hx;rcases hx with rfl | rfl
  ·omega
  ·simp
 have hbm4:bm ≠ b4:=by omega
 have hbm6:bm ≠ b6:=by have:=hk1.size; omega
 have hb46:b4 ≠ b6:=by omega
 refine qC' ?_;refine fM' τok (σ:=Tr × Nat × Value × Value) (fun _=>[(0,pt bm),(2,.int .i64 room),(4,pt b4),(6,pt b6)])
  (fun q w'=>gg' B cx (bb' B cx g') room (q.1,q.2.1) = RES /\ q.2.1 <= m /\ Ft (QB B) (cx.length:Int) q.1 /\ len q.1 <= room /\ FoV (ImN lo (b4 :: b6 :: X) w') q.1 q.2.2.1 q.2.2.2 /\ MacV v1 v2 v3 v4 (Im (b4 :: b6 :: X) w') w' bm B cx q.2.1 /\
   Bk w'.heap b4 [q.2.2.1,q.2.2.2] 161 /\ Kp [b4,bm] w2 w' /\ (∃ z1 z2,Bk w'.heap b6 [z1,z2] 161)) ?_ ?_
 ·refine ldN [.slice ah (row (headT y)).length ch,.slice au (argsT y).length cu] rfl (bZ h4) ?_
  refine ab' (tv' (Im.sub _ _) (fun _ _ _ h=>h.hold) hy hyf.im) ?_;rintro e w4 ⟨he,hk4⟩;have k24:=k23.tr hk4;have h44:=h4.kp hk4 (by simp);have h64:=h6.kp hk4 (by simp);have tr4:∀ b o v,Im (b4 :: b6 :: X) w3 b o v -> Im (b4 :: b6 :: X) w4 b o v:=fun b o v h=>h.tr hk4;simp only [bb',kY'] at hres;cases hp:df' y with
  | none =>
   rw [hp] at he hres;simp only at he hres;subst he;exact ⟨(y,m,_,_),rfl,⟨rfl,rfl,rfl,rfl,trivial⟩,hres,KJ _,hy,hyl,hyf.mono (fun _ _ _ h=>h.tr hk4),MacV.kp (MacV.mono hyM tr4) hk4 (by simp),h44,k24,z1,z2,h64⟩
  | some p =>
   rw [hp] at he hres;simp only at he hres;obtain ⟨vp,rfl,hvp⟩:=he;obtain ⟨hpF,hpl⟩:=lw' hy hp;have hvp:TmV (Im (b4 :: b6 :: X) w4) p vp:=hvp.mono fun b o v h=>h.elim (fun h=>h.tr hk4) (Im.of_new hX3);have hvp':=hvp;obtain ⟨ap,cp,rfl,_,_⟩:=hvp';have hX4:∀ b ∈ b4 :: b6 :: X,b < w4.heap.size:=xU hX3 hk4;have hyf4:=hyf.mono (D:=ImN lo (b4 :: b6 :: X) w4) (fun _ _ _ h=>h.tr hk4);have hyM4:=MacV.kp (MacV.mono hyM tr4) hk4 (by simp);have k44:Kp [bm] w4 (dr w4):=(Kp.refl [bm] w4).dr _;have hlen:=hy.len;unfold len at hyl;refine cO' τok (fun z=>Kp [bm] w4 z) ?_;refine rP τok [0,1,2,4,5,8,9] 8 (mB 15 [3,6,7,10,11,12,13,14]) k44 ?_;refine fN' [.slice ah (row (headT y)).length ch,.slice au (argsT y).length cu] rfl (fun z hz j v hj=>by rw [KW]; exact (h44.cl hj).kp hz (by simp; omega)) ?_;refine fN' [.slice ah (row (headT y)).length ch,.slice au (argsT y).length cu] rfl (fun z hz j v hj=>by rw [KW]; exact (h44.cl hj).kp hz (by simp; omega)) ?_;refine am' τok 3 7 (mB 15 [6,7,10,11,12,13,14]) rfl rfl rfl (by kernel_rfl) ?_;refine ab' (cD' ((Im.sub _ _).dr (w4.drawn + 1)) (fun _ _ _ h=>h.hold) hpF hvp) ?_;rintro e w5 ⟨hh5,hu5,rfl,hT5,hA5,hk5⟩;have hk5:Kp [] w4 w5:=hk5.rd;have kb5:Kp [bm] w4 w5:=hk5.weak (by simp);refine ⟨.inl kb5,?_⟩;refine am' τok 6 6 (mB 15 [7,10,11,12,13,14]) rfl rfl rfl (by kernel_rfl) ?_;refine ab' (mD' (C:=Im (b4 :: b6 :: X) w4) ((Im.sub _ _).tr hk5) hy hyf4.im) ?_;rintro e w6 ⟨rfl,hk6⟩;have k46:=hk5.tr hk6;have kb6:Kp [bm] w4 w6:=k46.weak (by simp);refine ⟨.inl kb6,?_⟩;refine rP τok [7,10] 4 (mR 15 11) kb6 ?_;refine i6 ?_;refine i6 ?_;refine am' τok 11 3 (mR 15 12) rfl rfl rfl (by kernel_rfl) ?_;have tr6:∀ b o v,Im (b4 :: b6 :: X) w4 b o v -> Im (b4 :: b6 :: X) w6 b o v:=fun b o v h=>h.tr k46;have hX6:∀ b ∈ b4 :: b6 :: X,b < w6.heap.size:=xU hX4 k46;have hpf:FoV (ImN lo (b4 :: b6 :: X) w6) p hh5 hu5:=⟨(IsTm.kp hT5 hk6 (X:=[]) (by simp)).tvN hX4 (by have:=hk4.size; show lo <= w4.heap.size; omega),(IsTms.kp hA5 hk6 (X:=[]) (by simp)).tvN hX4 (by have:=hk4.size; show lo <= w4.heap.size; omega)⟩
   have hrec:=ih g' (by omega) lo (b4 :: b6 :: X) w6 p (room - len y + len p) m hh5 hu5 (by have:=hk4.size; have:=k46.size; omega) hX6 hbm2 (MacV.kp (MacV.mono hyM4 tr6) k46 (by simp)) hpF (by unfold len; omega) (by unfold len; omega) (by omega) (by omega) hpf;obtain ⟨RP,hRP⟩:∃ r,bb' B cx g' p (room - len y + len p) m = r:=⟨_,rfl⟩
   rw [hRP] at hrec hres;refine ab' hrec ?_;rintro e w7 ⟨he,hk7⟩;have k47:Kp [bm] w4 w7:=kb6.trans hk7 (fun x hx _=>hx);have k27:Kp [b4,bm] w2 w7:=k24.trans k47 (fun x hx _=>by simp at hx; simp [hx]);cases RP with
   | error er =>
    simp only at he hres;subst he;subst hres;exact ⟨rfl,rfl,fin k27⟩
   | ok q =>
    obtain ⟨q1,q2⟩:=q;simp only at he hres;obtain ⟨h7,u7,rfl,hf7,hM7⟩:=he;obtain ⟨i1,i2,i3⟩:=fD' hB hcx hcl g' p _ m q1 q2 hpF (by unfold len; omega) (by unfold len; omega) hRP;have hwl:=jm' (p:=q1) hy hp;unfold len at i2;have hwF:=(gV' (C:=Im X w) (qk B) hy i1 hp (by omega)).1;refine ⟨.inl k47,?_⟩;refine am' τok 12 2 (mR 15 13) rfl rfl rfl (by kernel_rfl) ?_;refine ab' (oY' (Im.sub _ _) i1 hf7.im) ?_;rintro e w8 ⟨v8,rfl,hv8,hk8⟩;have k48:=k47.tr hk8;refine ⟨.inl k48,?_⟩;refine am' τok 13 1 (mR 15 14) rfl rfl rfl (by kernel_rfl) ?_;have tr8:∀ b o v,Im (b4 :: b6 :: X) w4 b o v -> Im (b4 :: b6 :: X) w8 b o v:=fun b o v h=>h.kp k48 (fun y hy _=>by simp at hy; simp [hy,hbm]);have hX7:∀ b ∈ b4 :: b6 :: X,b < w7.heap.size:=xU hX4 k47;have hX8:∀ b ∈ b4 :: b6 :: X,b < w8.heap.size:=xU hX7 hk8;have l7:lo <= w7.heap.size:=by have:=hk4.size; have:=k47.size; omega
    have l8:lo <= w8.heap.size:=by have:=hk8.size; omega
    refine ab' (tw' (C:=ImN lo (b4 :: b6 :: X) w8) (qk B) (ImN.sub _ _ _) (fun _ _ _ h=>h.1.hold) hy i1 hp (by omega) (hyf4.mono fun b o v h=>h.kp k48 (fun y hy _=>by simp at hy; simp [hy,hbm])) (hv8.tvN hX7 l7)) ?_;rintro e w9 ⟨⟨h9,u9,rfl,hf9⟩,hk9⟩;have k49:=k48.tr hk9;refine ⟨.inl k49,?_⟩;have hf9:FoV (ImN lo (b4 :: b6 :: X) w9) (dB' y q1) h9 u9:=hf9.mono fun b o v h=>h.elim (fun h=>h.tr hk9) (ImN.of_new hX8 l8);have hX9:∀ b ∈ b4 :: b6 :: X,b < w9.heap.size:=xU hX8 hk9;obtain ⟨a9,c9,a9',c9',rfl,rfl⟩:=hf9.vals;refine am' τok 14 0 (mR 15 15) rfl rfl rfl (by kernel_rfl) ?_;refine stN (vs:=[.slice a9 (row (headT (dB' y q1))).length c9,.slice a9' (argsT (dB' y q1)).length c9']) (h44.kp k49 (by simp; omega)) rfl (by simp [Value.oneCell']) fun w10 h10 hs10 hk10=>?_;refine ⟨.inr (by kernel_rfl),?_⟩;refine dP ?_;have tr10:∀ b o v,Im (b4 :: b6 :: X) w9 b o v -> Im (b4 :: b6 :: X) w10 b o v:=fun b o v h=>h.kp hk10 (fun y hy _=>by simp at hy; simp [hy]);have k710:Kp [b4] w7 w10:=((hk8.tr hk9).weak (by simp)).trans hk10 (fun x hx _=>hx);have tr710:∀ b o v,Im (b4 :: b6 :: X) w7 b o v -> Im (b4 :: b6 :: X) w10 b o v:=fun b o v h=>h.kp k710 (fun y hy _=>by simp at hy; simp [hy]);have k210:Kp [b4,bm] w2 w10:=k27.trans k710 (fun x hx _=>by simp at hx; simp [hx]);exact ⟨(dB' y q1,q2,_,_),rfl,⟨rfl,rfl,rfl,rfl,trivial⟩,hres,i3,hwF,by unfold len; simp only; omega,(hf9.mono fun b o v h=>h.kp hk10 (fun y hy _=>by simp at hy; simp [hy])),MacV.kp (MacV.mono hM7 tr710) k710 (by simpa using hbm4),h10,k210,z1,z2,(h64.kp k49 (by simp; omega)).kp hk10 (by simp; omega)⟩
 ·rintro ⟨y1,m1,vh,vu⟩ w5 ⟨hpost,hm1,hyF,hyl1,hyf1,hyM1,h4,k25,z3,z4,h6⟩
  simp only at hpost hm1 hyF hyl1 hyf1 hyM1 h4;obtain ⟨ah1,ch1,au1,cu1,rfl,rfl⟩:=hyf1.vals;have hlen:=hyF.len;have hyp1:=ag' y1;unfold gg' at hpost;simp only at hpost;refine fY' τok ?_;refine ldN [.slice ah1 (row (headT y1)).length ch1,.slice au1 (argsT y1).length cu1] rfl (bZ h4) ?_;refine ab' (rg' hB (Im.sub _ _) (fun _ _ _ h=>h.hold) ⟨_,_,_,_,hyM1⟩ (by omega) hyF hyf1.im) ?_;rintro e w6 ⟨rfl,hk6⟩;have h46:=h4.kp hk6 (by simp);have tr6:∀ b o v,Im (b4 :: b6 :: X) w5 b o v -> Im (b4 :: b6 :: X) w6 b o v:=fun b o v h=>h.tr hk6;have hyf6:=hyf1.mono (D:=ImN lo (b4 :: b6 :: X) w6) (fun _ _ _ h=>h.tr hk6);have hyM6:=MacV.kp (MacV.mono hyM1 tr6) hk6 (by simp);have k26:=k25.tr hk6;have h66:=h6.kp hk6 (by simp);refine br (fun g=>?_) (fun g=>?_)
  ·have g:bT' B cx y1 = false:=by simpa using g
   rw [if_neg (by rw [g]; decide)] at hpost;subst hpost;refine ldN [.slice ah1 (row (headT y1)).length ch1,.slice au1 (argsT y1).length cu1] rfl (bZ h46) ?_;refine stN (vs:=[.slice ah1 (row (headT y1)).length ch1,.slice au1 (argsT y1).length cu1]) h66 rfl (by simp [Value.oneCell']) fun w7 h67 hs7 hk7=>?_;refine nl' τok rfl [_,_] rfl (fun j v hj=>h67.cl hj) ?_;have tr7:∀ b o v,Im (b4 :: b6 :: X) w6 b o v -> Im X w7 b o v:=fun b o v h=>Im.less (X:=b4 :: b6 :: X) (fun y hy=>by simp [hy]) (h.kp hk7 (fun y hy _=>by simp at hy; simp [hy]));refine ⟨⟨_,_,rfl,(hyf6.mono fun b o v h=>⟨tr7 b o v h.1,h.2.1,h.2.2.kp hk7 (fun hb=>h.1.2 (by simp at hb; simp [hb]))⟩),MacV.kp (MacV.mono hyM6 tr7) hk7 (by simpa using hbm6)⟩,(fin k26).trans hk7 fun x hx hl=>by
    obtain rfl:x = b6:=by simpa using hx
    have:=hk1.size;omega⟩
  ·have g:bT' B cx y1 = true:=by simpa using g
   rw [if_pos g] at hpost;have hyM6':=hyM6;obtain ⟨hMb,hO,hE,hP,hC⟩:=hyM6';refine lb hMb ?_;refine ac' (fun g2=>?_) (fun g2=>?_)
   ·have g2:((m1:Nat):Int) = 0:=g2
    rw [if_pos (by omega)] at hpost;subst hpost;refine run (jh' _ w6) ?_;exact ⟨rfl,fin k26⟩
   ·have g2:¬ ((m1:Nat):Int) = 0:=g2
    rw [if_neg (by omega)] at hpost;refine ldN [.slice ah1 (row (headT y1)).length ch1,.slice au1 (argsT y1).length cu1] rfl (bZ h46) ?_;refine ab' (vd' hB (Im.sub _ _) (fun _ _ _ h=>h.hold) ⟨_,_,_,_,hyM6⟩ hcx hcl hyF g hyf6.im) ?_;rintro e w7 ⟨he,hk7⟩;have k27:=k26.tr hk7;cases ho:kp' B cx y1 with
    | error er =>
     rw [ho] at he hpost;simp only at he hpost;subst he;subst hpost;exact ⟨rfl,fin k27⟩
    | ok z =>
     rw [ho] at he hpost;simp only at he hpost;obtain ⟨h7,u7,rfl,hf7⟩:=he;have hzF:=pb' hB hcx hcl hyF g ho;have hX6:∀ b ∈ b4 :: b6 :: X,b < w6.heap.size:=xU hX2 k26;have hf7:FoV (ImN lo (b4 :: b6 :: X) w7) z h7 u7:=hf7.mono fun b o v h=>ImN.of_new hX6 (by have:=k26.size; have:=k02.size; omega) h;refine ab' (oZ' (Im.sub _ _) hzF hf7.im room) ?_;rintro e w8 ⟨he,hk8⟩;have k28:=k27.tr hk8
     by_cases hbig:room < ((row z).length:Int)
     ·rw [if_pos hbig] at he
      rw [if_pos (by unfold len; exact hbig)] at hpost;subst he;subst hpost;exact ⟨rfl,fin k28⟩
     ·rw [if_neg hbig] at he
      rw [if_neg (by unfold len; exact hbig)] at hpost;subst he;obtain ⟨a7,c7,a7',c7',rfl,rfl⟩:=hf7.vals;have k68:=hk7.tr hk8;refine stN (vs:=[.slice a7 (row (headT z)).length c7,.slice a7' (argsT z).length c7']) (h46.kp k68 (by simp)) rfl (by simp [Value.oneCell']) fun w9 h49 hs9 hk9=>?_;have k29:Kp [b4,bm] w2 w9:=k28.trans hk9 (fun x hx _=>by simp at hx; simp [hx]);have hM9:=(hMb.kp k68 (by simp)).kp hk9 (by simpa using hbm4);refine lb hM9 ?_;refine i6 ?_;refine st hM9 (Nat.lt_of_sub_eq_succ rfl) rfl fun w10 hM10 hs10 hk10=>?_;have hM10:Bk w10.heap bm [.int .i64 B.vars,v1,v2,.int .i64 B.nat,v3,v4,.int .i64 ((m1:Int) - 1)] 181:=hM10;have k210:Kp [b4,bm] w2 w10:=k29.trans hk10 (fun x hx _=>by simp at hx; simp [hx]);have k710:Kp [b4,bm] w7 w10:=((hk8.weak (by simp)).trans hk9 (fun x hx _=>by simp at hx; simp [hx])).trans hk10 (fun x hx _=>by simp at hx; simp [hx]);have tr710:∀ b o v,Im (b4 :: b6 :: X) w7 b o v -> Im (b4 :: b6 :: X) w10 b o v:=fun b o v h=>h.kp k710 (fun y hy _=>by simp at hy; rcases hy with rfl | rfl <;> simp [hbm]);have tr610:∀ b o v,Im (b4 :: b6 :: X) w6 b o v -> Im (b4 :: b6 :: X) w10 b o v:=fun b o v h=>tr710 b o v (h.tr hk7);have hM10':Bk w10.heap bm [.int .i64 B.vars,v1,v2,.int .i64 B.nat,v3,v4,.int .i64 ((m1 - 1:Nat):Int)] 181:=by
       rw [show ((m1 - 1:Nat):Int) = (m1:Int) - 1 by omega];exact hM10
      have h610:=((h66.kp k68 (by simp)).kp hk9 (by simpa using Ne.symm hb46)).kp hk10 (by simpa using Ne.symm hbm6);exact ⟨(g',z,m1 - 1,_,_),by simp only; omega,rfl,⟨rfl,rfl,rfl,rfl,trivial⟩,by show g' <= G; omega,by simp only; have:=hzF.len; omega,by simp only; omega,hpost,hzF,by unfold len; simp only; omega,(hf7.mono fun b o v h=>h.kp k710 (fun y hy _=>by simp at hy; rcases hy with rfl | rfl <;> simp [hbm])),⟨hM10',hO.mono tr610,hE.mono tr610,hP.mono tr610,hC.mono tr610⟩,h49.kp hk10 (by simpa using Ne.symm hbm4),k210,z3,z4,h610⟩
end
theorem rj' (b0 b1 b2:Nat) (w:World) :
  CallsD Tryz.prog 113 #[pt b0,pt b1,pt b2] .returning w fun e u' w'=>(∃ v,e = .returned v) /\ u' = .returning /\ Kp [] w w':=by
 refine callsD_of_wpS Tryz.func113 rfl fun c₀ cs hu=>?_;apply wpS_seq;apply wpS_region;simp [wpOpsS,go_sem,recoverD,hu,Exit.thenS,Instr.typeAssert,Tryz.underlying95,Tryz.zeroValue95];refine wpS_of_wp (Go.wp_mono (aX' τok (n:=13) _ ⟨[(0,pt b0),(1,pt b1),(2,pt b2),(3,pt w.heap.size),(4,.bool false)],[]⟩ _ (fun e s w'=>e = .normal /\ s.d = [] /\ Kp [] w w') ?_ _ (ll' (by simp) rfl ?_)) ?_)
 ·exact ⟨rfl,rfl,Kp.alloc _ _⟩
 ·intro q hq
  simp only [JJ,JZ,or_false] at hq;rcases hq with rfl | rfl | rfl | rfl | rfl <;> simp
 ·rintro e a' w' ⟨s,hF,rfl,hd,hk⟩
  exact qI' hF hd rfl hu ⟨⟨_,rfl⟩,rfl,hk⟩
theorem pe' {w:World} {b0 b1 b2 T0 T1 T2:Nat} {v0 v1 v2:Value} (h0:Bk w.heap b0 [v0] T0) (h1:Bk w.heap b1 [v1] T1) (h2:Bk w.heap b2 [v2] T2) (n01:b0 ≠ b1) (n02:b0 ≠ b2) (n12:b1 ≠ b2) (er:Int) :
  CallsD Tryz.prog 113 #[pt b0,pt b1,pt b2] (.panicking (dA' er)) w fun e u' w'=>(∃ v,e = .returned v) /\ settle u' = .returning /\ Bk w'.heap b0 [.slice none 0 0] T0 /\ Bk w'.heap b1 [.int .i64 0] T1 /\ Bk w'.heap b2 [.int .i64 er] T2 /\ Kp [b0,b1,b2] w w':=by
 refine callsD_of_wpS Tryz.func113 rfl fun c₀ cs hu=>?_;apply wpS_seq;apply wpS_region;simp [wpOpsS,go_sem,recoverD,hu,Exit.thenS,Instr.typeAssert,Tryz.underlying95,Tryz.zeroValue95];refine wpS_of_wp (Go.wp_mono (aX' τok (n:=13) _ ⟨[(0,pt b0),(1,pt b1),(2,pt b2),(3,pt w.heap.size),(4,.bool true)],[]⟩ _ (fun e s w'=>e = .normal /\ s.d = [] /\ Bk w'.heap b0 [.slice none 0 0] T0 /\ Bk w'.heap b1 [.int .i64 0] T1 /\ Bk w'.heap b2 [.int .i64 er] T2 /\ Kp [b0,b1,b2] w w') ?_ _ (ll' (by simp) rfl ?_)) ?_)
 ·have hk1:Kp [] w (w.alloc (Obj.cells #[Value.int IntKind.i64 er] 95)):=Kp.alloc _ _
  have hB2:Bk (w.alloc (Obj.cells #[Value.int IntKind.i64 er] 95)).heap w.heap.size [.int .i64 er] 95:=by
   show (w.heap.push _)[_]? = _;simp
  obtain ⟨w1,hw1⟩:∃ w1,w1 = w.alloc (Obj.cells #[Value.int IntKind.i64 er] 95):=⟨_,rfl⟩
  obtain ⟨bf,hbf⟩:∃ bf,bf = w.heap.size:=⟨_,rfl⟩
  rw [<- hw1] at hk1 hB2 ⊢;rw [<- hbf] at hB2 ⊢;have g0:=h0.kp hk1 (by simp);have g1:=h1.kp hk1 (by simp);have g2:=h2.kp hk1 (by simp);have l0:=h0.lt;have l1:=h1.lt;have l2:=h2.lt;refine as' τok (fun z=>Bk z.heap bf [.int .i64 er] 95) ?_;refine rV τok [0,1] 3 (mR 5 2) hB2 ?_;refine ldQ (fun z hz=>hz.cl rfl) ?_;refine nV τok 2 2 (mR 5 3) ?_;refine st (b:=b0) (o:=0) g0 (by simp) rfl fun w2 r0 hs2 hk2=>?_;have hk2:Kp [b0] w1 w2:=hk2.rd;have hB3:=hB2.kp hk2 (by simp; omega);refine ⟨.inl hB3,?_⟩;refine nV τok 3 1 (mR 5 4) ?_;refine st (b:=b1) (o:=0) (g1.kp hk2 (by simpa using Ne.symm n01)) (by simp) rfl fun w3 r1 hs3 hk3=>?_;refine ⟨.inl (hB3.kp hk3 (by simp; omega)),?_⟩;refine nV τok 4 0 (mR 5 5) ?_;refine st (b:=b2) (o:=0) ((g2.kp hk2 (by simpa using Ne.symm n02)).kp hk3 (by simpa using Ne.symm n12)) (by simp) rfl fun w4 r2 hs4 hk4=>?_;refine ⟨.inr (by kernel_rfl),?_⟩;refine dV ?_;exact ⟨rfl,rfl,(r0.kp hk3 (by simpa using n01)).kp hk4 (by simpa using n02),r1.kp hk4 (by simpa using n12),r2,(((hk1.weak (by simp)).trans hk2 (fun x hx _=>by simp at hx; simp [hx])).trans hk3 (fun x hx _=>by simp at hx; simp [hx])).trans hk4 (fun x hx _=>by simp at hx; simp [hx])⟩
 ·intro q hq
  simp only [JJ,JZ,or_false] at hq;rcases hq with rfl | rfl | rfl | rfl | rfl <;> simp
 ·rintro e a' w' ⟨s,hF,rfl,hd,hk⟩
  exact or' hF hd rfl ⟨⟨_,rfl⟩,rfl,hk⟩
def br' (f:Int):Nat:=(min (max f 0) 100000).toNat
@[irreducible] def GW:Nat:=600000000
theorem vf':600000000 <= GW:=by unfold GW; exact KJ _
def aM' (B:BoT) (cx:Ctx) (x:Tr) (fuel:Int):Except Int (Tr × Nat):=bb' B cx GW x 4096 (br' fuel)
def BoV (C:Mem) (B:BoT) (v:Value):Prop:=∃ v1 v2 v3,v = .agg #[.int .i64 B.vars,v1,v2,.int .i64 B.nat,v3] /\ SV rOr C B.orders v1 /\ SV rEn C B.ents v2 /\ SV rPr C B.prims v3
theorem BoV.mono {C D:Mem} {B:BoT} {v:Value} (h:BoV C B v) (hc:∀ b o v,C b o v -> D b o v):BoV D B v:=by
 obtain ⟨v1,v2,v3,h0,h1,h2,h3⟩:=h;exact ⟨v1,v2,v3,h0,h1.mono hc,h2.mono hc,h3.mono hc⟩
section
variable {B:BoT} {cx:Ctx} {bm:Nat}
theorem rk' (hB:GoodB B) (hcx:CxOk B cx) (hcl:cx.length <= 90000) {X:List Nat} {w:World} {x:Tr} {n:Nat} {v:Value} {bt:Nat} (hX:XL X w) (hbm:bm ∈ X) (hM:MacC (Im X w) w bm B cx n) (hx:Ft (QB B) (cx.length:Int) x) (hn:n <= 100000) (hbt:Bk w.heap bt [v] 29) (hv:TmV (Im X w) x v) :
  CC 100 #[pt bm,pt bt] w (fun e w'=>(match bb' B cx GW x 4096 n with
   | .ok q=>∃ u,e = .returned u /\ TmV (Im X w') q.1 u /\ MacC (Im X w') w' bm B cx q.2
   | .error er=>e = .panicked (dA' er)) /\ Kp [bm] w w'):=by
 refine oF Tryz.func100 ?_;have hGW:=vf';obtain ⟨RES,hRES⟩:∃ r,bb' B cx GW x 4096 n = r:=⟨_,rfl⟩
 have hlen:=hx.len;obtain ⟨v1,v2,v3,v4,hM⟩:=hM;refine cO (args:=[_,_]) 9 [.tmp 3] τok Tryz.func100 ?_;refine lb hbt ?_;refine ab' (cD' (Im.sub _ _) (fun _ _ _ h=>h.hold) hx hv) ?_;rintro e w1 ⟨h1,u1,rfl,hT1,hA1,hk1⟩;have hX1:=xU hX hk1;have hw:=tx' (bm:=bm) hB hcx hcl GW 0 X w1 x 4096 n h1 u1 (KV _) hX1 hbm (MacV.kp (MacV.mono hM fun _ _ _ h=>h.tr hk1) hk1 (by simp)) hx (by unfold len; omega) (by omega) (by omega) (by omega) ⟨hT1.tvN hX (KV _),hA1.tvN hX (KV _)⟩;rw [hRES] at hw ⊢;refine ab' hw ?_;rintro e w2 ⟨he,hk2⟩;have k02:Kp [bm] w w2:=(hk1.weak (by simp)).trans hk2 (fun x hx _=>hx);cases RES with
 | error er =>
  simp only at he;subst he;exact ⟨rfl,k02⟩
 | ok q =>
  obtain ⟨q1,q2⟩:=q;simp only at he;obtain ⟨h2,u2,rfl,hf2,hM2⟩:=he;have hq:=fD' hB hcx hcl GW x 4096 n q1 q2 hx (by unfold len; omega) (by omega) hRES;refine ab' (oY' (Im.sub _ _) hq.1 hf2.im) ?_;rintro e w3 ⟨v3,rfl,hv3,hk3⟩;have hX2:=xU hX k02;exact ⟨⟨v3,rfl,hv3.tv hX2,⟨_,_,_,_,MacV.kp (MacV.mono hM2 fun _ _ _ h=>h.tr hk3) hk3 (by simp)⟩⟩,k02.tr hk3⟩
end
section
variable {B:BoT} {cx:Ctx}
theorem vg' {x:Tr} {er:Int} (h:kp' B cx x = .error er):er = 9:=by
 have h1:∀ {b u:Tr} {v e:Int},ay' b u v = .error e -> e = 9:=fun {b u v e} h=>by
  unfold ay' at h;split at h
  ·injection h with h; exact h.symm
  ·cases h
 have h2:∀ {b:Tr} {l:List Tr} {e:Int},aH' b l = .error e -> e = 9:=fun {b l e} h=>by
  unfold aH' at h;split at h
  ·injection h with h; exact h.symm
  ·cases h
 have h4:∀ {m:Except Int Tr} {l:List Tr} {e:Int},(∀ e,m = .error e -> e = 9) -> (m.bind fun s=>aH' s l) = .error e -> e = 9:=fun {m l e} hm h=>by
  cases m with
  | error e'=>injection h with h; rw [<- h]; exact hm _ rfl
  | ok s=>exact h2 h
 have h3:∀ (f:Tr) (i:Nat) (b:Tr) (e:Int),bp' f i b = .error e -> e = 9:=by
  intro f i
  induction i with
  | zero=>intro b e h; cases h
  | succ i ih =>
   intro b e h;simp only [bp'] at h;cases hs:ay' b (aq' (fixAt f i) i 0) 0 with
   | error e'=>rw [hs] at h; injection h with h; rw [<- h]; exact h1 hs
   | ok s=>rw [hs] at h; exact ih _ _ h
 unfold kp' at h;simp only at h;split at h
 ·exact h4 (fun e=>h1) h
 split at h
 ·exact h4 (fun e=>h1) h
 split at h
 ·exact h2 h
 split at h
 ·exact h2 h
 split at h
 ·exact h2 h
 ·exact h4 (fun e=>h3 _ _ _ _) h
theorem gW':∀ (g:Nat) (x:Tr) (room:Int) (n:Nat) (er:Int),bb' B cx g x room n = .error er -> er = 9 \/ er = 10
 | 0,x,room,n,er,h=>by injection h with h; exact .inr h.symm
 | g + 1,x,room,n,er,h=>by
  simp only [bb'] at h;have hpost:∀ q,gg' B cx (bb' B cx g) room q = .error er -> er = 9 \/ er = 10:=fun q h=>by
   unfold gg' at h;split at h
   ·split at h
    ·injection h with h; exact .inr h.symm
    ·cases ho:kp' B cx q.1 with
     | error e=>rw [ho] at h; injection h with h; rw [<- h]; exact .inl (vg' ho)
     | ok z =>
      rw [ho] at h;simp only at h;split at h
      ·injection h with h; exact .inl h.symm
      ·exact gW' g _ _ _ _ h
   ·cases h
  cases hp:kY' (bb' B cx g) x room n with
  | error e =>
   rw [hp] at h;injection h with h
   subst h;unfold kY' at hp;split at hp
   ·cases hp
   ·split at hp
    ·rename_i he
     injection hp with hp
     subst hp;exact gW' g _ _ _ _ he
    ·cases hp
  | ok q=>rw [hp] at h; exact hpost q h
def vh' (X:List Nat) (w:World) (r:Except Int (Tr × Nat)) (e:Ending) (w':World):Prop :=
 (match r with
  | .ok q=>∃ u,e = .returned (.tuple #[u,.int .i64 (q.2:Int),.int .i64 0]) /\ TmV (Im X w') q.1 u
  | .error er=>e = .returned (.tuple #[.slice none 0 0,.int .i64 0,.int .i64 er])) /\ Kp [] w w'
theorem rl' {fid:Nat} (RES:Except Int (Tr × Nat)) {X:List Nat} {w:World} {x:Tr} {fuel:Int} {v u vb vc:Value} {bt:Nat} (hX:XL X w) (hb:BoV (Im X w) B vb) (hc:SV rBd (Im X w) (cx.map bdR) vc)
  (hbt:Bk w.heap bt [v] 29) (hv:TmV (Im X w) x v) (hu:TmV (Im X w) x u)
  (hone:∀ (bm:Nat) (Y:List Nat) (w:World),(XL Y w) -> bm ∈ Y -> MacC (Im Y w) w bm B cx (br' fuel) -> Bk w.heap bt [v] 29 -> TmV (Im Y w) x v -> di' Tryz.prog fid /\ Calls Tryz.prog fid #[pt bm,pt bt] w (fun e w'=>(match RES with
   | .ok q=>∃ u,e = .returned u /\ TmV (Im Y w') q.1 u /\ MacC (Im Y w') w' bm B cx q.2
   | .error er=>e = .panicked (dA' er)) /\ Kp [bm] w w')) :
  CC 99 #[vb,vc,u,.int .i64 fuel,.func (.func fid) #[] #[pt bt]] w (vh' X w RES):=by
 refine oF Tryz.func99 ?_;obtain ⟨v1,v2,v3,rfl,hb1,hb2,hb3⟩:=hb;obtain ⟨au,cu,rfl,_,_⟩:=hu;obtain ⟨ac,cc,rfl,hc1,hc2⟩:=hc;refine ef' (args:=[_,_,_,_,_]) 30 [.cell 10 29,.cell 11 3,.cell 12 36] τok Tryz.func99 rfl rfl rfl (Nat.le_of_ble_eq_true rfl) ?_;refine new fun b5 w1 hb5 h5 hs1 hk1=>?_;have h5:Bk w1.heap b5 [.int .i64 B.vars,v1,v2,.int .i64 B.nat,v3] 26:=h5;refine new fun b10 w2 hb10 h10 hs2 hk2=>?_;refine new fun b11 w3 hb11 h11 hs3 hk3=>?_;refine new fun b12 w4 hb12 h12 hs4 hk4=>?_;have k24:=(hk2.tr hk3).tr hk4;have k04:=hk1.tr k24;refine ldN [.int .i64 B.vars,v1,v2,.int .i64 B.nat,v3] rfl (fun j v hj=>by rw [KW]; exact (h5.kp k24 (by simp)).cl hj) ?_;refine ob' ?_;refine nj' ?_;obtain ⟨n,hn,hn1⟩:∃ n:Nat,min (max fuel 0) 100000 = (n:Int) /\ br' fuel = n:=⟨_,by unfold br'; omega,rfl⟩
 rw [hn];refine new fun bm w5 hbm hM hs5 hk5=>?_;have hM:Bk w5.heap bm [.int .i64 B.vars,v1,v2,.int .i64 B.nat,v3,.slice ac (cx.map bdR).length cc,.int .i64 (n:Int)] 181:=hM;have k05:=k04.tr hk5;have h10:=h10.kp ((hk3.tr hk4).tr hk5) (by simp);have h11:=h11.kp (hk4.tr hk5) (by simp);have h12:=h12.kp hk5 (by simp);have l0:=k04.size;have hX5:∀ b ∈ bm :: b10 :: b11 :: b12 :: X,b < w5.heap.size:=fun b hb=>by
  simp only [JJ] at hb;have l1:=h10.lt;have l2:=h11.lt;have l3:=h12.lt;have l4:=hM.lt;rcases hb with rfl | rfl | rfl | rfl | hb
  ·assumption
  ·assumption
  ·assumption
  ·assumption
  ·have:=hX b hb; have:=k05.size; omega
 have hnew:w.heap.size <= b10 /\ b10 < b11 /\ b11 < b12 /\ b12 < bm:=by
  have:=hk1.size;have:=hk2.size;have:=hk3.size;have:=hk4.size;have:=hk5.size;omega
 have up:∀ b o v,Im X w b o v -> Im (bm :: b10 :: b11 :: b12 :: X) w5 b o v:=fun b o v h=>Im.more (X:=X) (fun y hy=>by
  simp only [JJ] at hy;rcases hy with rfl | rfl | rfl | rfl | hy
  ·exact .inr (by omega)
  ·exact .inr (by omega)
  ·exact .inr (by omega)
  ·exact .inr (by omega)
  ·exact .inl hy) h |>.tr k05
 have hw:=hone bm _ _ hX5 (by simp) ⟨v1,v2,v3,_,by rw [hn1]; exact hM,hb1.mono up,hb2.mono up,hb3.mono up,⟨ac,cc,rfl,hc1.mono up,hc2⟩⟩ (hbt.kp k05 (by simp)) (hv.mono up);refine ab' hw ?_;rintro e w6 ⟨he,hk6⟩;have n10:b10 ∉ [bm]:=by simp; omega
 have n11:b11 ∉ [bm]:=by simp; omega
 have n12:b12 ∉ [bm]:=by simp; omega
 have h10:=h10.kp hk6 n10;have h11:=h11.kp hk6 n11;have h12:=h12.kp hk6 n12;have kfin:∀ {w':World} {Y:List Nat},Kp Y w6 w' -> (∀ y ∈ Y,w.heap.size <= y) -> Kp [] w w':=fun {w' Y} k hY=>(k05.trans hk6 (fun x hx hl=>by
  obtain rfl:x = bm:=by simpa using hx
  omega)).trans k (fun x hx hl=>by have:=hY x hx; omega)
 cases RES with
 | error er =>
  simp only at he;subst he;refine ⟨_,_,_,113,#[pt b10,pt b11,pt b12],rfl,by simp,by simp [go_sem],(pe' h10 h11 h12 (by omega) (by omega) (by omega) er).mono ?_⟩;rintro e u' w7 ⟨he,hset,r10,r11,r12,hk7⟩;refine ⟨he,hset,?_⟩;refine qJ' Tryz.underlying29 (r10.cl rfl) ?_;refine ia' Tryz.underlying3 (r11.cl rfl) ?_;refine ia' Tryz.underlying36 (r12.cl rfl) ?_;exact ⟨rfl,kfin hk7 fun y hy=>by
   simp only [JJ,JZ,or_false] at hy;omega⟩
 | ok q =>
  simp only at he;obtain ⟨z,rfl,hz,v1',v2',v3',v4',hM6,_⟩:=he;have hzz:=hz;obtain ⟨az,cz,rfl,_,_⟩:=hzz;refine st (b:=b10) (o:=0) h10 (by simp) rfl fun w7 h10' hs7 hk7=>?_;have hM7:=hM6.kp hk7 (by simp; omega);refine as' τok (fun z=>Bk z.heap bm [.int .i64 B.vars,v1',v2',.int .i64 B.nat,v3',v4',.int .i64 (q.2:Int)] 181 /\ Bk z.heap b10 [.slice az (row q.1).length cz] 29) ?_;refine rV τok (rg 0 5) 3 (mR 8 5) ⟨hM7,h10'⟩ ?_;refine ldQ (fun z hz=>hz.2.cl rfl) ?_;refine ldQ (fun z hz=>hz.1.cl rfl) ?_;refine nV τok 5 2 (mR 8 6) ?_;refine st (b:=b10) (o:=0) h10' (by simp) rfl fun w8 h10'' hs8 hk8=>?_;have hk8:Kp [b10] w7 w8:=hk8.rd;refine ⟨.inl ⟨hM7.kp hk8 (by simp; omega),h10''⟩,?_⟩;refine nV τok 6 1 (mR 8 7) ?_;refine st (b:=b11) (o:=0) ((h11.kp hk7 (by simp; omega)).kp hk8 (by simp; omega)) (by simp) rfl fun w9 h11' hs9 hk9=>?_;refine ⟨.inl ⟨(hM7.kp hk8 (by simp; omega)).kp hk9 (by simp; omega),h10''.kp hk9 (by simp; omega)⟩,?_⟩;refine nV τok 7 0 (mR 8 8) ?_;refine st (b:=b12) (o:=0) (((h12.kp hk7 (by simp; omega)).kp hk8 (by simp; omega)).kp hk9 (by simp; omega)) (by simp) rfl fun w10 h12' hs10 hk10=>?_;refine ⟨.inr (by kernel_rfl),?_⟩;refine dV ?_;refine ⟨_,_,_,113,#[pt b10,pt b11,pt b12],rfl,by simp,by simp [go_sem],(rj' b10 b11 b12 w10).mono ?_⟩;rintro e u' w11 ⟨he,rfl,hk11⟩;refine ⟨he,rfl,?_⟩;have r10:=((h10''.kp hk9 (by simp; omega)).kp hk10 (by simp; omega)).kp hk11 (by simp);have r11:=(h11'.kp hk10 (by simp; omega)).kp hk11 (by simp);have r12:=h12'.kp hk11 (by simp);refine qJ' Tryz.underlying29 (r10.cl rfl) ?_;refine ia' Tryz.underlying3 (r11.cl rfl) ?_;refine ia' Tryz.underlying36 (r12.cl rfl) ?_;have k611:Kp [b10,b11,b12] w6 w11:=((((hk7.weak (Y:=[b10,b11,b12]) (by simp)).trans hk8 (fun x hx _=>by simp at hx; simp [hx])).trans hk9 (fun x hx _=>by simp at hx; simp [hx])).trans hk10 (fun x hx _=>by simp at hx; simp [hx])).tr hk11;refine ⟨⟨_,rfl,hz.mono fun b o v h=>(h.kp k611 fun y hy _=>?_).less fun y hy=>by simp [hy]⟩,kfin k611 fun y hy=>by
   simp only [JJ,JZ,or_false] at hy;omega⟩
  simp only [JJ,JZ,or_false] at hy;rcases hy with rfl | rfl | rfl <;> simp
theorem mF' (hB:GoodB B) (hcx:CxOk B cx) (hcl:cx.length <= 90000) {X:List Nat} {w:World} {x:Tr} {fuel:Int} {v vb vc:Value} (hX:XL X w) (hx:Ft (QB B) (cx.length:Int) x) (hb:BoV (Im X w) B vb) (hc:SV rBd (Im X w) (cx.map bdR) vc) (hv:TmV (Im X w) x v) :
  CC 81 #[vb,vc,v,.int .i64 fuel] w (vh' X w (aM' B cx x fuel)):=by
 refine oF Tryz.func81 ?_;have hbb:=hb;obtain ⟨v1,v2,v3,rfl,hb1,hb2,hb3⟩:=hbb;have hvv:=hv;obtain ⟨av,cv,rfl,_,_⟩:=hvv;have hcc:=hc;obtain ⟨ac,cc,rfl,_,_⟩:=hcc;refine cO (args:=[_,_,_,_]) 20 [.tmp 8,.tmp 9,.tmp 10] τok Tryz.func81 ?_;refine new fun b4 w1 hb4 h4 hs1 hk1=>?_;have h4:Bk w1.heap b4 [.int .i64 B.vars,v1,v2,.int .i64 B.nat,v3] 26:=h4;refine new fun b6 w2 hb6 h6 hs2 hk2=>?_;have h6:Bk w2.heap b6 [.slice av (row x).length cv] 29:=h6;have h4:=h4.kp hk2 (by simp);have k02:=hk1.tr hk2;have hX2:=xU hX k02;refine ldN [.int .i64 B.vars,v1,v2,.int .i64 B.nat,v3] rfl (bZ h4) ?_;refine lb h6 ?_;have up:∀ b o v,Im X w b o v -> Im X w2 b o v:=fun b o v h=>h.tr k02;refine ab' (rl' (aM' B cx x fuel) hX2 (hb.mono up) (hc.mono up) h6 (hv.mono up) (hv.mono up) fun bm Y w hY hbm hM hbt hv=>rk' (bm:=bm) hB hcx hcl hY hbm hM hx (by unfold br'; omega) hbt hv) ?_;rintro e w3 ⟨he,hk3⟩;cases hr:aM' B cx x fuel with
 | error er =>
  rw [hr] at he;simp only at he;subst he;exact ⟨rfl,k02.tr hk3⟩
 | ok q =>
  rw [hr] at he;obtain ⟨z,rfl,hz⟩:=he;exact ⟨⟨_,rfl,hz⟩,k02.tr hk3⟩
end
end Go.Proofs.YtpealcfjbcpoiaaGreat
namespace Go.Proofs.YtpealcfjbcpoiaaGreat
open Go.Shelf Go.RowKit Go.Maps Go.Sort Go.Wx
def kr':Go.Shelf.Ren:=⟨fun | 7=>79 | 10=>98 | n=>n,fun | 23=>142 | 26=>3 | 3=>3 | 28=>146 | 0=>0 | 27=>145 | 33=>131 | 4=>4 | n=>n,fun | n=>n⟩
theorem vi':Go.Proofs.SlLaysZI.n7 Tryz.prog kr':={
 mixed:=by kernel_rfl
 f7:=⟨Tryz.f79.name,by decide,Tryz.func79.trans (congrArg some (by kernel_rfl))⟩
 f10:=⟨Tryz.f98.name,by decide,Tryz.func98.trans (congrArg some (by kernel_rfl))⟩
 t0:=Tryz.underlying0
 a0:=Tryz.isAgg0
 z0:=Tryz.sizeOf0
 v0:=Tryz.zeroValue0
 t4:=Tryz.underlying4
 a4:=Tryz.isAgg4
 z4:=Tryz.sizeOf4
 v4:=Tryz.zeroValue4
 t23:=Tryz.underlying142
 a23:=Tryz.isAgg142
 z23:=Tryz.sizeOf142
 v23:=Tryz.zeroValue142
 t26:=Tryz.underlying3
 a26:=Tryz.isAgg3
 z26:=Tryz.sizeOf3
 v26:=Tryz.zeroValue3
 t27:=Tryz.underlying145
 a27:=Tryz.isAgg145
 z27:=Tryz.sizeOf145
 v27:=Tryz.zeroValue145
 t28:=Tryz.underlying146
 a28:=Tryz.isAgg146
 z28:=Tryz.sizeOf146
 v28:=Tryz.zeroValue146
 t33:=Tryz.underlying131
 a33:=Tryz.isAgg131
 z33:=Tryz.sizeOf131
 v33:=Tryz.zeroValue131 }
def gX':Go.Shelf.Ren:=⟨fun | 6=>78 | 8=>96 | 9=>97 | 11=>110 | 13=>112 | 12=>111 | 23=>133 | 24=>134 | 14=>124 | 15=>125 | 16=>126 | 17=>127 | 18=>128 | 19=>129 | 20=>130 | 21=>131 | 22=>132 | 25=>148 | 26=>149 | 27=>150 | 28=>151 | 29=>152 | 30=>153 | 31=>159 | n=>n,fun | 26=>3 | 28=>146 | 24=>138 | 0=>0 | 3=>3 | 37=>179 | 48=>202 | 50=>204 | 4=>4 | 40=>196 | 39=>195 | 45=>127 | 5=>5 | 9=>9 | 51=>213 | 55=>217 | 57=>223 | 58=>224 | 33=>131 | n=>n,fun | n=>n⟩
theorem tz':Go.Proofs.SlLaysZI.n6 Tryz.prog gX':={
 mixed:=by kernel_rfl
 f6:=⟨Tryz.f78.name,by decide,Tryz.func78.trans (congrArg some (by kernel_rfl))⟩
 f8:=⟨Tryz.f96.name,by decide,Tryz.func96.trans (congrArg some (by kernel_rfl))⟩
 f11:=⟨Tryz.f110.name,by decide,Tryz.func110.trans (congrArg some (by kernel_rfl))⟩
 t0:=Tryz.underlying0
 a0:=Tryz.isAgg0
 z0:=Tryz.sizeOf0
 v0:=Tryz.zeroValue0
 t24:=Tryz.underlying138
 a24:=Tryz.isAgg138
 z24:=Tryz.sizeOf138
 v24:=Tryz.zeroValue138
 t26:=Tryz.underlying3
 a26:=Tryz.isAgg3
 z26:=Tryz.sizeOf3
 v26:=Tryz.zeroValue3
 t28:=Tryz.underlying146
 a28:=Tryz.isAgg146
 z28:=Tryz.sizeOf146
 v28:=Tryz.zeroValue146
 i26:=by kernel_rfl }
def pf':Go.Shelf.Ren:=⟨fun | 5=>97 | 8=>112 | 7=>111 | 19=>133 | 20=>134 | 10=>124 | 11=>125 | 12=>126 | 13=>127 | 14=>128 | 15=>129 | 16=>130 | 17=>131 | 18=>132 | 30=>148 | 31=>149 | 32=>150 | 33=>151 | 34=>152 | 35=>153 | 40=>159 | n=>n,fun | 23=>138 | 25=>3 | 3=>3 | 32=>179 | 22=>138 | 0=>0 | 44=>202 | 46=>204 | 4=>4 | 36=>196 | 35=>195 | 41=>127 | 5=>5 | 9=>9 | 53=>213 | 57=>217 | 63=>223 | 64=>224 | n=>n,fun | n=>n⟩
theorem vj':Go.Proofs.SlLaysM.n5 Tryz.prog pf':={
 mixed:=by kernel_rfl
 f5:=⟨Tryz.f97.name,by decide,Tryz.func97.trans (congrArg some (by kernel_rfl))⟩
 f7:=⟨Tryz.f111.name,by decide,Tryz.func111.trans (congrArg some (by kernel_rfl))⟩
 f8:=Tryz.func112.trans (congrArg some (by kernel_rfl))
 f10:=⟨Tryz.f124.name,by decide,Tryz.func124.trans (congrArg some (by kernel_rfl))⟩
 f11:=⟨Tryz.f125.name,by decide,Tryz.func125.trans (congrArg some (by kernel_rfl))⟩
 f12:=⟨Tryz.f126.name,by decide,Tryz.func126.trans (congrArg some (by kernel_rfl))⟩
 f13:=⟨Tryz.f127.name,by decide,Tryz.func127.trans (congrArg some (by kernel_rfl))⟩
 f14:=⟨Tryz.f128.name,by decide,Tryz.func128.trans (congrArg some (by kernel_rfl))⟩
 f15:=⟨Tryz.f129.name,by decide,Tryz.func129.trans (congrArg some (by kernel_rfl))⟩
 f16:=⟨Tryz.f130.name,by decide,Tryz.func130.trans (congrArg some (by kernel_rfl))⟩
 f17:=⟨Tryz.f131.name,by decide,Tryz.func131.trans (congrArg some (by kernel_rfl))⟩
 f18:=⟨Tryz.f132.name,by decide,Tryz.func132.trans (congrArg some (by kernel_rfl))⟩
 f19:=Tryz.func133.trans (congrArg some (by kernel_rfl))
 f20:=Tryz.func134.trans (congrArg some (by kernel_rfl))
 f30:=⟨Tryz.f148.name,by decide,Tryz.func148.trans (congrArg some (by kernel_rfl))⟩
 f31:=Tryz.func149.trans (congrArg some (by kernel_rfl))
 f32:=Tryz.func150.trans (congrArg some (by kernel_rfl))
 f33:=⟨Tryz.f151.name,by decide,Tryz.func151.trans (congrArg some (by kernel_rfl))⟩
 f34:=⟨Tryz.f152.name,by decide,Tryz.func152.trans (congrArg some (by kernel_rfl))⟩
 f35:=⟨Tryz.f153.name,by decide,Tryz.func153.trans (congrArg some (by kernel_rfl))⟩
 f40:=⟨Tryz.f159.name,by decide,Tryz.func159.trans (congrArg some (by kernel_rfl))⟩
 t0:=Tryz.underlying0
 a0:=Tryz.isAgg0
 z0:=Tryz.sizeOf0
 v0:=Tryz.zeroValue0
 t3:=Tryz.underlying3
 a3:=Tryz.isAgg3
 z3:=Tryz.sizeOf3
 v3:=Tryz.zeroValue3
 t4:=Tryz.underlying4
 a4:=Tryz.isAgg4
 z4:=Tryz.sizeOf4
 v4:=Tryz.zeroValue4
 t5:=Tryz.underlying5
 a5:=Tryz.isAgg5
 z5:=Tryz.sizeOf5
 v5:=Tryz.zeroValue5
 t9:=Tryz.underlying9
 a9:=Tryz.isAgg9
 z9:=Tryz.sizeOf9
 v9:=Tryz.zeroValue9
 t22:=Tryz.underlying138
 a22:=Tryz.isAgg138
 z22:=Tryz.sizeOf138
 v22:=Tryz.zeroValue138
 t23:=Tryz.underlying138
 a23:=Tryz.isAgg138
 z23:=Tryz.sizeOf138
 v23:=Tryz.zeroValue138
 t25:=Tryz.underlying3
 a25:=Tryz.isAgg3
 z25:=Tryz.sizeOf3
 v25:=Tryz.zeroValue3
 t32:=Tryz.underlying179
 a32:=Tryz.isAgg179
 z32:=Tryz.sizeOf179
 v32:=Tryz.zeroValue179
 t35:=Tryz.underlying195
 a35:=Tryz.isAgg195
 z35:=Tryz.sizeOf195
 v35:=Tryz.zeroValue195
 t36:=Tryz.underlying196
 a36:=Tryz.isAgg196
 z36:=Tryz.sizeOf196
 v36:=Tryz.zeroValue196
 t41:=Tryz.underlying127
 a41:=Tryz.isAgg127
 z41:=Tryz.sizeOf127
 v41:=Tryz.zeroValue127
 t44:=Tryz.underlying202
 a44:=Tryz.isAgg202
 z44:=Tryz.sizeOf202
 v44:=Tryz.zeroValue202
 t46:=Tryz.underlying204
 a46:=Tryz.isAgg204
 z46:=Tryz.sizeOf204
 v46:=Tryz.zeroValue204
 t53:=Tryz.underlying213
 a53:=Tryz.isAgg213
 z53:=Tryz.sizeOf213
 v53:=Tryz.zeroValue213
 t57:=Tryz.underlying217
 a57:=Tryz.isAgg217
 z57:=Tryz.sizeOf217
 v57:=Tryz.zeroValue217
 t63:=Tryz.underlying223
 a63:=Tryz.isAgg223
 z63:=Tryz.sizeOf223
 v63:=Tryz.zeroValue223
 t64:=Tryz.underlying224
 a64:=Tryz.isAgg224
 z64:=Tryz.sizeOf224
 v64:=Tryz.zeroValue224 }
theorem vk' (m:Nat):AnyZI.SortsIn Tryz.prog gX' Fence.wide m :=
 ⟨fun blk off cap ss W hH hblk hsz=>callsIn_wide.2 (AnyM.slices_Sort_int vj' blk off cap ss W hH hblk hsz),
 fun p cap W=>callsIn_wide.2 (AnyM.slices_Sort_int_none vj' p cap W)⟩
theorem rm' {w w':World} (h:Below w.heap.size w w'):Kp [] w w':=⟨h.os,h.tape,h.output,h.size,fun b hb _=>h.block b hb⟩
theorem tA' (b:Nat) (w:World):CC 79 #[.map (some b)] w (fun e w'=>e = .returned (.func (.func 98) #[] #[.pointer (some ⟨w.heap.size,0,none⟩)]) /\ w' = w.alloc (.cells #[.map (some b)] 142)) :=
 ⟨⟨_,Tryz.func79,rfl,by decide⟩,callsIn_wide.1 (AnyZI.keys_in vi' Fence.wide 5 trivial rfl (some b) w)⟩
theorem pg' {H:Type} {b n:Nat} {D:DataW H} {R:Value -> Option (DataW H × List MemPlace)} {w:World} (hown:w.ownsMap Tryz.prog 3 R b n D) (hmax:Maps.size D <= maxLen) (hbytes:Maps.size D * 8 <= 140737488355328) :
  CC 78 #[.func (.func 98) #[] #[.pointer (some ⟨w.heap.size,0,none⟩)]] (w.alloc (.cells #[.map (some b)] 142)) (fun e w'=>∃ (v:Value) (ss:List Int),e = .returned v /\ ss.Perm (intKeys D) /\
   w'.ownsRow (w.heap.size + 1) 3 1 v ss.length ((ss.mergeSort (fun x y=>decide (x <= y))).map (Value.int .i64)) /\ Kp [] (w.alloc (.cells #[.map (some b)] 142)) w'):=by
 refine oF Tryz.func78 ?_;have hbl:=hown.lt;have hseq:SeqGives Fence.wide 2 Tryz.prog 98 #[.pointer (some ⟨w.heap.size,0,none⟩)] encZ (fun ss=>ss.Perm (intKeys D)) (Maps.size D) (w.alloc (.cells #[.map (some b)] 142)) :=
  AnyZI.keys_gives (ρ:=kr') { vi' with } Fence.wide _ trivial rfl (by omega) w.heap.size b n D _ (by simp) (by simp) (by
   obtain ⟨es,clock,hb,Ft,hs,hD⟩:=hown;exact ⟨es,clock,(Below.heap_alloc _ _ b hbl).trans hb,Ft,hs,hD⟩)
 have cS:=AnyZI.sorted_in tz' Fence.wide 5 trivial trivial trivial trivial rfl (by omega) (vk' _) (enters_of Tryz.func97 (by kernel_rfl) rfl) 98 #[.pointer (some ⟨w.heap.size,0,none⟩)] trivial (enters_of Tryz.func98 (by kernel_rfl) rfl) _ _ hmax hbytes _ hseq
 change CallsIn _ _ Tryz.prog 78 _ _ _ at cS
 refine (callsIn_wide.1 cS).mono ?_;rintro e w' ⟨v,ss,rfl,hS,hrow,_,hb⟩;rw [World.size_alloc] at hrow;exact ⟨v,ss,rfl,hS,hrow,rm' hb⟩
end Go.Proofs.YtpealcfjbcpoiaaGreat
namespace Go.Proofs.YtpealcfjbcpoiaaGreat
open Go.Wx Lv
def ph' (f:Int -> Option Int) (k v:Int):Int -> Option Int:=fun x=>if x = k then some v else f x
def upd (f:Int -> Option Int) (x:Atom):Int -> Option Int:=match f x.var with
 | none=>ph' f x.var x.add
 | some v=>if v < x.add then ph' f x.var x.add else f
def id' (l:List Atom):Int -> Option Int:=l.foldl upd (fun _=>none)
theorem kt' (l:List Atom) (x:Atom):id' (l ++ [x]) = upd (id' l) x:=by simp [id']
theorem sr' {f:Int -> Option Int} {x:Atom} {k:Int} (h:k ≠ x.var):upd f x k = f k:=by
 unfold upd;cases hf:f x.var with
 | none=>simp [ph',h]
 | some v =>
  simp only;split
  ·simp [ph',h]
  ·rfl
theorem jn' (f:Int -> Option Int) (x:Atom):upd f x x.var = some (match f x.var with | none=>x.add | some v=>if v < x.add then x.add else v):=by
 unfold upd;cases hf:f x.var with
 | none=>simp [ph']
 | some v =>
  simp only;split
  ·simp [ph']
  ·exact hf
theorem fold_from {k v:Int}:∀ (l:List Atom) (f:Int -> Option Int),l.foldl upd f k = some v -> f k = some v \/ ∃ y ∈ l,y.var = k /\ y.add = v
 | [],f,h=>.inl h
 | x :: l,f,h=>by
  rcases fold_from l (upd f x) h with h1 | ⟨y,hy,h1⟩
  ·by_cases hk:k = x.var
   ·subst hk
    rw [jn'] at h1;cases hf:f x.var with
    | none=>rw [hf] at h1; simp at h1; exact .inr ⟨x,by simp,rfl,h1⟩
    | some u =>
     rw [hf] at h1;simp only at h1;split at h1
     ·exact .inr ⟨x,by simp,rfl,by simpa using h1⟩
     ·exact .inl (by simpa using h1)
   ·rw [sr' hk] at h1
    exact .inl h1
  ·exact .inr ⟨y,by simp [hy],h1⟩
theorem pi' {k:Int}:∀ (l:List Atom) (f:Int -> Option Int) (u:Int),f k = some u -> ∃ v,l.foldl upd f k = some v /\ u <= v
 | [],f,u,h=>⟨u,h,Int.le_refl _⟩
 | x :: l,f,u,h=>by
  have:∃ u',upd f x k = some u' /\ u <= u':=by
   by_cases hk:k = x.var
   ·subst hk
    rw [jn',h];simp only;split
    ·exact ⟨x.add,rfl,by omega⟩
    ·exact ⟨u,rfl,Int.le_refl _⟩
   ·exact ⟨u,by rw [sr' hk]; exact h,Int.le_refl _⟩
  obtain ⟨u',h1,h2⟩:=this;obtain ⟨v,h3,h4⟩:=pi' l (upd f x) u' h1;exact ⟨v,h3,by omega⟩
theorem mG':∀ (l:List Atom) (f:Int -> Option Int) (y:Atom),y ∈ l -> ∃ v,l.foldl upd f y.var = some v /\ y.add <= v
 | x :: l,f,y,h=>by
  rcases List.mem_cons.1 h with rfl | h
  ·obtain ⟨v,h1,h2⟩:=pi' (k:=y.var) l (upd f y) _ (jn' f y)
   refine ⟨v,h1,?_⟩;cases hf:f y.var with
   | none=>rw [hf] at h2; exact h2
   | some u =>
    rw [hf] at h2;simp only at h2;split at h2 <;> omega
  ·exact mG' l (upd f x) y h
theorem ku' {l:List Atom} {k v:Int} (h:id' l k = some v):∃ y ∈ l,y.var = k /\ y.add = v:=by
 rcases fold_from l _ h with h | h
 ·cases h
 ·exact h
theorem rn' {l:List Atom} {y:Atom} (h:y ∈ l):∃ v,id' l y.var = some v /\ y.add <= v:=mG' l _ y h
theorem iz' {vars:Int}:∀ {l:List Atom} {last:Int},dz' vars l last = true -> (∀ x ∈ l,last < x.var) /\ l.Pairwise (fun x y=>x.var < y.var)
 | [],_,_=>⟨by simp,List.Pairwise.nil⟩
 | x :: l,last,h=>by
  simp only [dz'] at h;split at h
  ·cases h
  rename_i h0;obtain ⟨h1,h2⟩:=iz' h;refine ⟨fun y hy=>?_,List.pairwise_cons.2 ⟨fun y hy=>h1 y hy,h2⟩⟩;rcases List.mem_cons.1 hy with rfl | hy
  ·omega
  ·have:=h1 y hy
   omega
theorem mH' {l:List Atom} {vars:Int} (h:aT' l vars = true):l.Pairwise (fun x y=>x.var < y.var) /\ 1 <= l.length:=by
 unfold aT' at h;split at h
 ·cases h
 ·exact ⟨(iz' h).2,by omega⟩
def eq' (f:Int -> Option Int) (r:List Nat):List Int:=(r.filter fun (v:Nat)=>(f v).isSome).map fun (v:Nat)=>(v:Int)
def maxL (a b:List Atom):List Atom:=(List.range 17).filterMap fun (v:Nat)=>(id' (a ++ b) v).map fun n=>⟨(v:Int),n⟩
theorem gY' (f:Int -> Option Int):∀ r:List Nat,(r.filterMap fun (v:Nat)=>(f v).map fun n=>(⟨(v:Int),n⟩:Atom)).map Atom.var = eq' f r
 | []=>rfl
 | v :: r=>by
  have ih:=gY' f r;unfold eq' at ih ⊢;rw [List.filterMap_cons];cases h:f v with
  | none=>simp [h]; simpa using ih
  | some n=>simp [h]; simpa using ih
def mI' (a b:List Atom):Int:=if aT' a 16 = false \/ aT' b 16 = false then 19 else if 4 < (maxL a b).length then 5 else 0
def nN' (a b:List Atom):List Atom:=if mI' a b = 0 then maxL a b else []
theorem jo' (f:Int -> Option Int) (n:Nat):(eq' f (List.range n)).Pairwise (· < ·):=by
 unfold eq';refine List.pairwise_map.2 (List.Pairwise.imp (R:=(· < ·)) (fun h=>by omega) ((List.pairwise_lt_range (n:=n)).filter _))
theorem pj' {f:Int -> Option Int} {n:Nat} (hf:∀ x v,f x = some v -> 0 <= x /\ x < n) (x:Int):x ∈ eq' f (List.range n) ↔ (f x).isSome = true:=by
 unfold eq';simp only [List.mem_map,List.mem_filter,List.mem_range];constructor
 ·rintro ⟨v,⟨h1,h2⟩,rfl⟩
  exact h2
 ·intro h
  obtain ⟨v,hv⟩:=Option.isSome_iff_exists.1 h;have:=hf x v hv;exact ⟨x.toNat,⟨by omega,by rw [Int.toNat_of_nonneg this.1]; exact h⟩,Int.toNat_of_nonneg this.1⟩
theorem ro' {x:Int} (h:I64 x):(Lit.int .i64 x).wf = true:=by
 unfold I64 at h;simp [Lit.wf,IntKind.min,IntKind.max,IntKind.signed,IntKind.bits];omega
def MV (w:World) (b:Nat) (f:Int -> Option Int) (n:Nat):Prop:=∃ D:DataW Unit,w.ownsMap Tryz.prog 3 (plainElem Tryz.prog 3) b n D /\
 ∀ x,I64 x -> Maps.has D (.int .i64 x) = (f x).isSome /\ D.atKey (.int .i64 x) (.lit (.int .i64 0)) = .lit (.int .i64 ((f x).getD 0))
theorem MV.kp {w w':World} {b n:Nat} {f:Int -> Option Int} {X:List Nat} (h:MV w b f n) (k:Kp X w w') (hb:b ∉ X):MV w' b f n:=by
 obtain ⟨D,h1,h2⟩:=h;have hl:=h1.lt;obtain ⟨es,clock,hb',Ft,hs,hD⟩:=h1;exact ⟨D,⟨es,clock,by rw [k.block b hl hb]; exact hb',Ft,hs,hD⟩,h2⟩
theorem MV.lt {w:World} {b n:Nat} {f:Int -> Option Int} (h:MV w b f n):b < w.heap.size:=by
 obtain ⟨D,h1,_⟩:=h;exact h1.lt
theorem MV.made {w:World} {k:Value -> World -> Prop} (hk:∀ b w',b = w.heap.size -> MV w' b (fun _=>none) 0 -> w'.heap.size = b + 1 -> Kp [] w w' -> k (.map (some b)) w'):EvRun Tryz.prog (Instr.makeMap 142 none) w k:=by
 refine run (show (Instr.makeMap 142 none).run Tryz.prog w = .ok (.map (some w.heap.size)) (w.alloc (.map #[] 0)) from rfl) (hk _ _ rfl ⟨.map [],World.ownsMap_made w _ _ _,fun x _=>⟨rfl,rfl⟩⟩ (by simp) (Kp.alloc _ _))
theorem MV.look {w:World} {b n:Nat} {f:Int -> Option Int} (h:MV w b f n) {x:Int} (hx:I64 x) {k:Value -> World -> Prop} (hk:k (.tuple #[.int .i64 ((f x).getD 0),.bool (f x).isSome]) w):EvRun Tryz.prog (Instr.lookup 142 (.map (some b)) (.int .i64 x) true) w k:=by
 obtain ⟨D,h1,h2⟩:=h;obtain ⟨v,ps,hr,hv⟩:=h1.look_ok (Maps.int_keyed Tryz.underlying3) Tryz.underlying142 (Tryz.zeroValue3 w) (plainElem_int Tryz.underlying3 (by decide)) (Maps.keyOf_int_mk Tryz.underlying3 (ro' hx));obtain ⟨c,rfl,hc,_⟩:=plainElem_int_inv Tryz.underlying3 hv;obtain ⟨e1,e2⟩:=h2 x hx;rw [e2] at hc;simp at hc;rw [e1] at hr;rw [<- hc.1] at hr;exact run hr hk
theorem MV.look1 {w:World} {b n:Nat} {f:Int -> Option Int} (h:MV w b f n) {x:Int} (hx:I64 x) {k:Value -> World -> Prop} (hk:k (.int .i64 ((f x).getD 0)) w):EvRun Tryz.prog (Instr.lookup 142 (.map (some b)) (.int .i64 x) false) w k:=by
 obtain ⟨D,h1,h2⟩:=h;obtain ⟨c,hr,hc,_⟩:=h1.lookup_int (Maps.int_keyed Tryz.underlying3) Tryz.underlying142 Tryz.underlying3 (Tryz.zeroValue3 w) (Maps.keyOf_int_mk Tryz.underlying3 (ro' hx));rw [(h2 x hx).2] at hc;simp at hc;rw [<- hc] at hr;exact run hr hk
theorem MV.put {w:World} {b n:Nat} {f:Int -> Option Int} (h:MV w b f n) (hn:n < 1000000) {x v:Int} (hx:I64 x) (hv:I64 v) {k:World -> Prop} (hk:∀ w',MV w' b (ph' f x v) (n + 1) -> Kp [b] w w' -> k w'):EvRunU Tryz.prog (Instr.mapUpdate 142 (.map (some b)) (.int .i64 x) (.int .i64 v)) w k:=by
 obtain ⟨D,h1,h2⟩:=h;obtain ⟨w',hr,h3,hg⟩:=h1.update (Maps.int_keyed Tryz.underlying3) Tryz.underlying142 (by unfold maxLen; omega) (Maps.keyOf_int_mk Tryz.underlying3 (ro' hx)) (plainElem_int Tryz.underlying3 (ro' hv));refine ux' hr (hk w' ⟨_,h3,fun y hy=>?_⟩ (by simpa using gm' hg))
 by_cases e:y = x
 ·subst e
  rw [Maps.has_put_same h1.isMap (by trivial),Maps.atKey_put_same h1.isMap (by trivial)];simp [ph']
 ·have hne:(Lit.int .i64 y) ≠ .int .i64 x:=by simpa using e
  rw [Maps.has_put_other hne,Maps.atKey_put_other hne];simp only [ph',if_neg e];exact h2 y hy
theorem MV.keys {w:World} {b n:Nat} {f:Int -> Option Int} {m:Nat} (h:MV w b f n) (hm:m <= 1000) (hf:∀ x v,f x = some v -> 0 <= x /\ x < m) :
  ∃ D:DataW Unit,w.ownsMap Tryz.prog 3 (plainElem Tryz.prog 3) b n D /\ (eq' f (List.range m)).Perm (intKeys D) /\ Maps.size D = (eq' f (List.range m)).length:=by
 obtain ⟨D,h1,h2⟩:=h;obtain ⟨es,hD,hpw,_⟩:=h1.entries (Maps.int_keyed Tryz.underlying3);obtain ⟨es',hD',hko⟩:=h1.keysOf;obtain rfl:es = es':=by rw [hD] at hD'; simpa using hD'
 have hnd:(eq' f (List.range m)).Nodup:=(jo' f m).imp (fun h=>by omega);have hp:(eq' f (List.range m)).Perm (intKeys D):=by
  rw [hD];refine perm_intKeys hpw (fun p hp=>?_) hnd fun x=>?_
  ·obtain ⟨v,hv⟩:=hko p hp
   obtain ⟨x,_,hx,_⟩:=Maps.keyOf_i64 Tryz.underlying3 hv;exact ⟨x,hx⟩
  ·rw [pj' hf x,<- hD]
   by_cases hx:I64 x
   ·rw [(h2 x hx).1]
   ·constructor
    ·intro hs
     obtain ⟨v,hv⟩:=Option.isSome_iff_exists.1 hs;have:=hf x v hv;exact absurd (by unfold I64; omega) hx
    ·intro hs
     exfalso;rw [hD,Maps.has_eq,List.any_eq_true] at hs;obtain ⟨p,hp,hs⟩:=hs;obtain ⟨v,hv⟩:=hko p hp;obtain ⟨y,_,hy,hw⟩:=Maps.keyOf_i64 Tryz.underlying3 hv;rw [hy] at hs;have:y = x:=by simpa [Lit.sameKey] using hs
     subst this;apply hx;unfold I64;simp [Lit.wf,IntKind.min,IntKind.max,IntKind.signed,IntKind.bits] at hw;omega
 refine ⟨D,h1,hp,?_⟩;rw [hp.length_eq,hD];simp [Maps.size_eq,intKeys]
theorem pk' {f:Int -> Option Int} {m:Nat} {ss:List Int} (h:ss.Perm (eq' f (List.range m))):ss.mergeSort (fun x y=>decide (x <= y)) = eq' f (List.range m):=by
 have e:=mergeSort_of_perm_i h;unfold leI at e;rw [e];refine List.mergeSort_of_pairwise (List.Pairwise.imp (fun h=>by simp; omega) (jo' f m))
def rAt:Rd Atom where
 sz:=2
 den _ cs x:=cs = [.int .i64 x.var,.int .i64 x.add] /\ I64 x.var /\ I64 x.add
 len:=by rintro _ cs x ⟨rfl,_⟩; rfl
 mono:=by rintro _ _ cs x _ h; exact h
 one:=by rintro _ cs x ⟨rfl,_⟩ u hu; simp at hu; rcases hu with rfl | rfl <;> rfl
theorem rp' {C:Mem} {a:Option Addr} {l:List Atom} (h:Sl rAt C a l) {i:Nat} {x:Atom} (hi:l[i]? = some x):∃ b o,a = some ⟨b,o,none⟩ /\ C b (o + i * 2) (.int .i64 x.var) /\ C b (o + i * 2 + 1) (.int .i64 x.add) /\ I64 x.var /\ I64 x.add:=by
 obtain ⟨b,o,ha,hc⟩:=h.at (ai' hi)
 obtain ⟨cs,⟨rfl,h1,h2⟩,h5⟩:=hc i x hi;exact ⟨b,o,ha,h5 0 _ rfl,h5 1 _ rfl,h1,h2⟩
theorem Sl.atoms {C:Mem} {w:World} {a:Option Addr} {l:List Atom} (h:Sl rAt C a l) (hS:Sub C w):Atoms w.heap.size w.heap a l:=by
 refine ⟨?_,fun x hx=>?_⟩
 ·rcases h.2 with h0 | ⟨b,o,ha,hc⟩
  ·exact .inl h0
  ·rcases Nat.eq_zero_or_pos l.length with h0 | h0
   ·exact .inl h0
   have key:∀ i j,i < l.length -> j < 2 -> Cl w.heap b (o + i * 2 + j) (.int .i64 (if j = 0 then (l.getD i default).var else (l.getD i default).add)):=fun i j hi hj=>by
    obtain ⟨cs,⟨rfl,_⟩,h5⟩:=hc i l[i] (by simp);have e:l.getD i default = l[i]:=by simp [hi]
    rw [e]
    match j,hj with
    | 0,_=>exact hS _ _ _ (h5 0 _ rfl)
    | 1,_=>exact hS _ _ _ (h5 1 _ rfl)
   exact .inr ⟨b,o,ha,(key 0 0 h0 (by omega)).lt,key⟩
 ·obtain ⟨i,hi⟩:=JH hx
  obtain ⟨_,_,_,_,_,h1,h2⟩:=rp' h hi;exact ⟨h1,h2⟩
theorem ss':∀ (C C':Mem) (cs:List Value) (x:Atom),rAt.den C cs x -> rAt.den C' cs x:=fun _ _ _ _ h=>h
theorem tB' (n:Nat) (h0:0 < n) (hn:n <= 1000000) (w:World) :
  CC 95 #[.slice none 0 0,.int .i64 (n:Int)] w (fun e w'=>∃ v,e = .returned v /\ Own rAt 135 w.heap.size w' v [] /\ Kp [] w w'):=by
 refine oF Tryz.func95 ?_;refine cO (args:=[_,_]) 27 [.tmp 4] τok Tryz.func95 ?_;refine sn' rfl ?_;refine i6 ?_;refine i6 ?_;refine ac' (fun g=>?_) (fun g=>?_);rotate_left
 ·exact absurd (by omega) g
 refine sn' rfl ?_;refine nk' τok rfl 0 (.slice none 0 0) rfl (KJ _) rfl ?_;have e:((n:Int) - ((0:Nat) - (0:Nat):Int)) = (n:Int):=by omega
 rw [e];refine apZ (R:=rAt) rfl rfl (by decide) rfl (by decide) n h0 hn fun B G w1 hB hG hO hk=>?_;refine nk' τok rfl 0 _ rfl (KV _) dQ' ?_;exact ⟨_,rfl,hO,hk⟩
theorem pl' {D:Mem} {w:World} (hD:Sub D w) (ls:List (List Atom)) (a:Option Addr) (cap:Nat) (hl:Sl (rSl rAt) D a ls) (hlen:ls.length <= 1000) (hsum:(ls.map List.length).sum <= 1000000) (hpos:0 < (ls.map List.length).sum) :
  CC 77 #[.slice a ls.length cap] w (fun e w'=>∃ v,e = .returned v /\ Own rAt 135 w.heap.size w' v ls.flatten /\ Kp [] w w'):=by
 refine oF Tryz.func77 ?_;refine cO (args:=[_]) 36 [.tmp 2] τok Tryz.func77 ?_;have hDl:=hD.lt;have hpart:∀ k,((ls.take k).map List.length).sum + ((ls.drop k).map List.length).sum = (ls.map List.length).sum:=fun k=>by
  rw [<- List.sum_append,<- List.map_append,List.take_append_drop]
 refine lp τok (σ:=Nat) (fun k=>[(0,.slice a ls.length cap),(3,.int .i64 (((ls.take k).map List.length).sum:Nat)),(9,.slice a ls.length cap),(10,.int .i64 ls.length),(11,.int .i64 k)]) (fun k w'=>k <= ls.length /\ w' = w) (fun k=>ls.length - k) 0 rfl
  ⟨rfl,rfl,rfl,rfl,rfl,trivial⟩ ⟨KV _,rfl⟩ ?_
 rintro k w1 ⟨hk,rfl⟩;refine ac' (fun g1=>?_) (fun g1=>?_)
 ·have hlt:k < ls.length:=by omega
  obtain ⟨x,hx,hd⟩:=af' hlt;have e1:((ls.take (k + 1)).map List.length).sum = ((ls.take k).map List.length).sum + x.length:=by rw [al' hx]; simp
  have hp:=hpart (k + 1);obtain ⟨b,o,rfl,ax,cx,hcell,hsl⟩:=hl.sl hx;refine ix k rfl hlt ?_;refine ldC hD hcell ?_;refine i6 ?_;refine i6 ?_;refine ⟨k + 1,by omega,rfl,⟨rfl,?_,rfl,rfl,rfl,trivial⟩,hlt,rfl⟩;rw [e1]
  rfl
 have e2:ls.take k = ls:=JG (by omega);rw [e2];refine ab' (tB' _ hpos hsum w1) ?_;rintro e w2 ⟨v2,rfl,hO2,hk2⟩;refine lp τok (σ:=Nat × Value) (fun q=>[(6,q.2),(25,.slice a ls.length cap),(26,.int .i64 ls.length),(27,.int .i64 q.1)]) (fun q w'=>q.1 <= ls.length /\ Own rAt 135 w1.heap.size w' q.2 (ls.take q.1).flatten /\ Kp [] w1 w') (fun q=>ls.length - q.1) (0,v2) rfl
  ⟨rfl,rfl,rfl,rfl,trivial⟩ ⟨KV _,by simpa using hO2,hk2⟩ ?_
 clear hO2
 rintro ⟨k,v⟩ w3 ⟨hk,hO,hk3⟩;simp only at hk hO;refine ac' (fun g2=>?_) (fun g2=>?_)
 ·have hlt:k < ls.length:=by omega
  obtain ⟨x,hx,hd⟩:=af' hlt;have e1:(ls.take (k + 1)).flatten = (ls.take k).flatten ++ x:=by rw [al' hx]; simp
  have hp:=hpart (k + 1);have e3:((ls.take (k + 1)).map List.length).sum = (ls.take k).flatten.length + x.length:=by rw [<- List.length_flatten,e1]; simp
  obtain ⟨b,o,rfl,ax,cx,hcell,hsl⟩:=hl.sl hx;refine ix k rfl hlt ?_;refine ldC (hD.tr hk3) hcell ?_;refine hO.apF τok rfl rfl (by decide) ss' (hD.tr hk3) x hsl (by omega) (by unfold maxLen; omega) fun v' w4 hO4 hk4 _=>?_;refine i6 ?_;refine ⟨(k + 1,v'),by simp only; omega,rfl,⟨rfl,rfl,rfl,rfl,trivial⟩,hlt,?_,hk3.own hk4 hO⟩;rw [e1];exact hO4
 ·rw [JG (by omega)] at hO
  exact ⟨v,rfl,hO,hk3⟩
theorem rq' {a b:List Atom} (ha:aT' a 16 = true) (hb:aT' b 16 = true):∀ x v,id' (a ++ b) x = some v -> (0 <= x /\ x < (17:Nat)) /\ 0 <= v /\ v <= 1000:=fun x v h=>by
 obtain ⟨y,hy,rfl,rfl⟩:=ku' h;rcases List.mem_append.1 hy with hy | hy
 ·have:=(bD' ha).2 y hy; omega
 ·have:=(bD' hb).2 y hy; omega
theorem tC' {w:World} {lo:Nat} {v:Value} {l:List Int} (h:w.ownsRow lo 3 1 v l.length (l.map (Value.int .i64))):∃ a cap,v = .slice a l.length cap /\ ∀ i x,l[i]? = some x -> ∃ g,a = some ⟨g,0,none⟩ /\ lo <= g /\ Cl w.heap g (0 + i * 1) (.int .i64 x):=by
 rcases h.2 with ⟨rfl,h0⟩ | ⟨g,cap,cur,rfl,hb,hg,hn,hm,hc,ht⟩
 ·exact ⟨none,0,by rw [h0],fun i x hi=>by have:=ai' hi; omega⟩
 ·refine ⟨_,cap,rfl,fun i x hi=>⟨g,rfl,hb,cur,3,(0,0),hg,?_⟩⟩
  have hil:=ai' hi;have h1:(cur.toList.take (l.length * 1))[i]? = (l.map (Value.int .i64))[i]?:=by rw [ht]
  rw [List.getElem?_take_of_lt (by omega)] at h1;simp only [JX,hi,Option.map_some] at h1;rw [KW,Nat.mul_one]
  simpa using h1
theorem vl' {C:Mem} {w:World} (hS:Sub C w) (a b:List Atom) (aa ab:Option Addr) (ca cb:Nat) (ha:Sl rAt C aa a) (hb:Sl rAt C ab b) :
  CC 59 #[.slice aa a.length ca,.slice ab b.length cb] w (fun e w'=>∃ ar cr,e = .returned (.tuple #[.slice ar (nN' a b).length cr,.int .i64 (mI' a b)]) /\ Sl rAt (New w.heap.size w') ar (nN' a b) /\ Kp [] w w'):=by
 refine oF Tryz.func59 ?_;refine cO (args:=[_,_]) 74 [.tmp 4,.tmp 5] τok Tryz.func59 ?_;have bad:∀ e w',mI' a b = e -> e ≠ 0 -> Kp [] w w' -> ∃ ar cr,Ending.returned (Go.Wx.one [.slice none 0 0,.int .i64 e]) = .returned (.tuple #[.slice ar (nN' a b).length cr,.int .i64 (mI' a b)]) /\ Sl rAt (New w.heap.size w') ar (nN' a b) /\ Kp [] w w':=fun e w' he h0 hk=>by
  have hr:nN' a b = []:=by unfold nN'; rw [if_neg (by rw [he]; exact h0)]
  rw [hr,he];exact ⟨none,0,rfl,Sl.nil _ _ _,hk⟩
 refine ab' (eZ' a aa ca 16 w (Sl.atoms ha hS)) ?_;rintro e w1 ⟨rfl,hk1⟩;refine br (fun g1=>?_) (fun g1=>?_)
 ·exact bad 19 _ (by unfold mI'; rw [if_pos (.inl (by simpa using g1))]) (by omega) hk1
 have g1:aT' a 16 = true:=by simpa using g1
 refine ab' (eZ' b ab cb 16 w1 (Sl.atoms hb (hS.tr hk1))) ?_;rintro e w2 ⟨rfl,hk2⟩;have k02:=hk1.tr hk2;refine br (fun g2=>?_) (fun g2=>?_)
 ·exact bad 19 _ (by unfold mI'; rw [if_pos (.inr (by simpa using g2))]) (by omega) k02
 have g2:aT' b 16 = true:=by simpa using g2
 have hE:mI' a b = if 4 < (maxL a b).length then 5 else 0:=by unfold mI'; rw [if_neg (by simp [g1,g2])]
 have hal:=(bD' g1).1;have hbl:=(bD' g2).1;have hal1:=(mH' g1).2;have hbl1:=(mH' g2).2;have hrng:=rq' g1 g2;refine MV.made fun bm w3 hbm hM3 hs3 hk3=>?_;have k03:=k02.tr hk3;refine fill [.slice aa a.length ca,.slice ab b.length cb] rfl ?_;refine new fun bx w4 hbx hBx hs4 hk4=>?_;have k04:=k03.tr hk4;obtain ⟨C1,hC1⟩:∃ C1:Mem,C1 = fun b' o v=>C b' o v \/ (b' = bx /\ [Value.slice aa a.length ca,.slice ab b.length cb][o]? = some v):=⟨_,rfl⟩
 have hS4:Sub C1 w4:=by
  rw [hC1];rintro b' o v (h | ⟨rfl,h⟩)
  ·exact (hS.tr k04) _ _ _ h
  ·exact hBx.cl h
 have hm1:∀ b o v,C b o v -> C1 b o v:=by rw [hC1]; exact fun b o v h=>Or.inl h
 have hls:Sl (rSl rAt) C1 (some ⟨bx,0,none⟩) [a,b]:=⟨by simp,.inr ⟨bx,0,rfl,fun i x hi=>by
  match i with
  | 0 =>
   simp at hi;subst hi;exact ⟨_,⟨aa,ca,rfl,ha.mono hm1⟩,fun j v hj=>by
    match j with
    | 0=>simp at hj; subst hj; rw [hC1]; exact Or.inr ⟨rfl,rfl⟩
    | j + 1=>simp at hj⟩
  | 1 =>
   simp at hi;subst hi;exact ⟨_,⟨ab,cb,rfl,hb.mono hm1⟩,fun j v hj=>by
    match j with
    | 0=>simp at hj; subst hj; rw [hC1]; exact Or.inr ⟨rfl,rfl⟩
    | j + 1=>simp at hj⟩
  | i + 2=>simp at hi⟩⟩
 refine ab' (pl' hS4 [a,b] (some ⟨bx,0,none⟩) 2 hls (by simp) (by simp; omega) (by simp; omega)) ?_;rintro e w5 ⟨v5,rfl,hO5,hk5⟩;have k05:=k04.tr hk5;have hfl:[a,b].flatten = a ++ b:=by simp
 rw [hfl] at hO5;have hlen:(a ++ b).length = a.length + b.length:=by simp
 obtain ⟨ac,cc,rfl,hSc⟩:=hO5.den (by omega);have hbml:=hM3.lt;refine lp τok (σ:=Nat × Nat) (fun q=>[(6,.map (some bm)),(26,.slice ac (a ++ b).length cc),(27,.int .i64 (a ++ b).length),(28,.int .i64 q.1)])
  (fun q w'=>q.1 <= (a ++ b).length /\ q.2 <= q.1 /\ MV w' bm (id' ((a ++ b).take q.1)) q.2 /\ Kp [bm] w5 w') (fun q=>(a ++ b).length - q.1) (0,0) rfl ⟨rfl,rfl,rfl,rfl,trivial⟩ ⟨KV _,KJ _,(hM3.kp hk4 (by simp)).kp hk5 (by simp),Kp.refl _ _⟩ ?_
 rintro ⟨i,n⟩ w6 ⟨hi,hn,hM,hk6⟩;simp only at hi hn hM;refine ac' (fun g3=>?_) (fun g3=>?_)
 ·have hlt:i < (a ++ b).length:=by omega
  obtain ⟨x,hx,hd⟩:=af' hlt;have htk:=al' hx;obtain ⟨bc,oc,rfl,hc0,hc1,hx1,hx2⟩:=rp' hSc hx;have z4:bm < w4.heap.size:=by have:=hk4.size; omega
  have hcv:Cl w6.heap bc (oc + i * 2) (.int .i64 x.var):=hc0.2.cl.kp hk6 (by have:=hc0.1; simp; omega);have hca:Cl w6.heap bc (oc + i * 2 + 1) (.int .i64 x.add):=hc1.2.cl.kp hk6 (by have:=hc1.1; simp; omega);have hml:=hM.lt;refine ix i rfl hlt ?_;refine ldN [.int .i64 x.var,.int .i64 x.add] rfl (fun j v hj=>?_) ?_
  ·match j with
   | 0=>simp at hj; subst hj; exact hcv
   | 1=>simp at hj; subst hj; exact hca
   | j + 2=>simp at hj
  refine new fun b7 w7 hb7 hB7 hs7 hk7=>?_;refine stN (vs:=[.int .i64 x.var,.int .i64 x.add]) hB7 rfl (by simp [Value.oneCell']) fun w8 hB8 hs8 hk8=>?_;have k68:Kp [] w6 w8:=hk7.newSt hb7 hk8;have hM8:=hM.kp k68 (by simp);have k58:Kp [bm] w5 w8:=hk6.tr k68;refine ld (hB8.cl rfl).cell ?_;refine hM8.look hx1 ?_;have next:∀ w',MV w' bm (upd (id' ((a ++ b).take i)) x) (n + 1) -> Kp [bm] w5 w' -> MV w' bm (id' ((a ++ b).take (i + 1))) (n + 1) /\ Kp [bm] w5 w':=fun w' h1 h2=>by
   rw [htk,kt'];exact ⟨h1,h2⟩
  generalize hF:id' ((a ++ b).take i) = F at *
  refine br (fun g4=>?_) (fun g4=>?_)
  ·have g4:F x.var = none:=by simpa using g4
   refine ld (hB8.cl rfl).cell ?_;refine ld (hB8.cl rfl).cell ?_;refine hM8.put (by omega) hx1 hx2 fun w9 hM9 hk9=>?_;have hu:upd F x = ph' F x.var x.add:=by unfold upd; rw [g4]
   rw [<- hu] at hM9;obtain ⟨n1,n2⟩:=next w9 hM9 (k58.trans hk9 (fun y hy _=>hy));refine i6 ?_;exact ⟨(i + 1,n + 1),by simp only; omega,rfl,⟨rfl,rfl,rfl,rfl,trivial⟩,hlt,by simp only; omega,n1,n2⟩
  ·obtain ⟨u,hu⟩:∃ u,F x.var = some u:=Option.isSome_iff_exists.1 (by simpa using g4)
   refine ld (hB8.cl rfl).cell ?_;refine ac' (fun g5=>?_) (fun g5=>?_)
   ·have g5:u < x.add:=by
     have g5:(F x.var).getD 0 < x.add:=g5;rw [hu] at g5;exact g5
    refine ld (hB8.cl rfl).cell ?_;refine ld (hB8.cl rfl).cell ?_;refine hM8.put (by omega) hx1 hx2 fun w9 hM9 hk9=>?_;have hu':upd F x = ph' F x.var x.add:=by unfold upd; rw [hu]; simp only; rw [if_pos g5]
    rw [<- hu'] at hM9;obtain ⟨n1,n2⟩:=next w9 hM9 (k58.trans hk9 (fun y hy _=>hy));refine i6 ?_;exact ⟨(i + 1,n + 1),by simp only; omega,rfl,⟨rfl,rfl,rfl,rfl,trivial⟩,hlt,by simp only; omega,n1,n2⟩
   ·have g5:¬ u < x.add:=by
     have g5:¬ (F x.var).getD 0 < x.add:=g5;rw [hu] at g5;exact g5
    have hu':upd F x = F:=by unfold upd; rw [hu]; simp only; rw [if_neg g5]
    refine i6 ?_;refine ⟨(i + 1,n),by simp only; omega,rfl,⟨rfl,rfl,rfl,rfl,trivial⟩,hlt,by simp only; omega,?_,k58⟩;rw [htk,kt',hF,hu'];exact hM8
 rw [JG (by omega)] at hM;have own:∀ {u},Kp [bm] w5 u -> Kp [] w u:=fun k=>k05.trans k (fun y hy hl=>by have:=k02.size; simp at hy; omega);obtain ⟨Dm,hDm,hperm,hsize⟩:=hM.keys (m:=17) (by omega) (fun x v h=>(hrng x v h).1);have hkl:(maxL a b).map Atom.var = eq' (id' (a ++ b)) (List.range 17):=gY' _ _;have hkll:(eq' (id' (a ++ b)) (List.range 17)).length = (maxL a b).length:=by rw [<- hkl]; simp
 refine run (hDm.len Tryz.underlying142 _) ?_;rw [hsize,hkll];refine ac' (fun g4=>?_) (fun g4=>?_)
 ·exact bad 5 _ (by rw [hE,if_pos (by omega)]) (by omega) (own hk6)
 have g4:(maxL a b).length <= 4:=by omega
 have hE0:mI' a b = 0:=by rw [hE,if_neg (by omega)]
 have hR:nN' a b = maxL a b:=by unfold nN'; rw [if_pos hE0]
 rw [hE0,hR];refine ab' (tA' bm w6) ?_;rintro e w7 ⟨rfl,rfl⟩;refine ab' (pg' hDm (by rw [hsize,hkll]; unfold maxLen; omega) (by rw [hsize,hkll]; omega)) ?_;rintro e w8 ⟨v8,ss,rfl,hss,hrow,hk8⟩;have hsp:=hss.trans hperm.symm;have hsl:=hsp.length_eq;rw [pk' hsp,hsl] at hrow;obtain ⟨asl,cs,rfl,hat⟩:=tC' hrow;rw [hkll];have k68:Kp [] w6 w8:=(Kp.alloc _ _).tr hk8;have k08:=own (hk6.tr k68);have hM8:=hM.kp k68 (by simp);have hmt:∀ (j:Nat) (x:Atom),(maxL a b)[j]? = some x -> id' (a ++ b) x.var = some x.add /\ (eq' (id' (a ++ b)) (List.range 17))[j]? = some x.var:=fun j x hj=>by
  refine ⟨?_,by rw [<- hkl,JX,hj]; rfl⟩;have:=JQ hj;unfold maxL at this;obtain ⟨v,_,hv⟩:=List.mem_filterMap.1 this;cases h:id' (a ++ b) v with
  | none=>rw [h] at hv; cases hv
  | some n =>
   rw [h] at hv;obtain rfl:=JB hv;exact h
 refine lp τok (σ:=Nat × Value) (fun q=>[(6,.map (some bm)),(11,q.2),(58,.slice asl (maxL a b).length cs),(59,.int .i64 (maxL a b).length),(60,.int .i64 q.1)])
  (fun q w'=>q.1 <= (maxL a b).length /\ Own rAt 135 w8.heap.size w' q.2 ((maxL a b).take q.1) /\ Kp [] w8 w') (fun q=>(maxL a b).length - q.1) (0,.slice none 0 0) rfl ⟨rfl,rfl,rfl,rfl,rfl,trivial⟩ ⟨KV _,Own.nil _ _ (KJ _),Kp.refl _ _⟩ ?_
 rintro ⟨j,v9⟩ w9 ⟨hj,hO9,hk9⟩;simp only at hj hO9;refine ac' (fun g5=>?_) (fun g5=>?_)
 ·have hlt:j < (maxL a b).length:=by omega
  obtain ⟨x,hx,hd⟩:=af' hlt;obtain ⟨hmx,hkx⟩:=hmt j x hx;obtain ⟨g,rfl,hglo,hgc⟩:=hat j x.var hkx;have hvr:=hrng _ _ hmx;have hI1:I64 x.var:=by unfold I64; omega
  have hI2:I64 x.add:=by unfold I64; omega
  refine ix j rfl hlt ?_;refine ld (hgc.kp hk9 (by simp)).cell ?_;refine (hM8.kp hk9 (by simp)).look1 hI1 ?_;rw [hmx];refine fill [.int .i64 x.var,.int .i64 x.add] rfl ?_;refine new fun bz wz hbz hBz hsz hkz=>?_;have hlen9:((maxL a b).take j).length = j:=by simp; omega
  refine (hO9.kp hkz).ap1 τok rfl rfl (by decide) x [.int .i64 x.var,.int .i64 x.add] ⟨rfl,hI1,hI2⟩ (bZ hBz) (by rw [hlen9]; omega) (by rw [hlen9]; unfold maxLen; omega) fun v10 w10 hO10 hk10 _=>?_;refine i6 ?_;refine ⟨(j + 1,v10),by simp only; omega,rfl,⟨rfl,rfl,rfl,rfl,rfl,trivial⟩,hlt,?_,(hk9.tr hkz).own hk10 (hO9.kp hkz)⟩;rw [al' hx];exact hO10
 ·rw [JG (by omega)] at hO9
  obtain ⟨ar,cr,rfl,hSr⟩:=hO9.den (by omega);exact ⟨ar,cr,rfl,hSr.mono (New.up k08.size (Kp.refl _ _)),k08.tr hk9⟩
end Go.Proofs.YtpealcfjbcpoiaaGreat
