import Derived.Test.YtmpgcpemnjbgjaaGreatMm10
import Derived.Shelf.SlIterI.Nil
import Derived.Shelf.SortM.Plain
import Derived.Shelf.SortM.SortNone
import Derived.Maps.OwnSet
import Derived.Maps.Range
set_option linter.unusedVariables false
set_option linter.unusedSimpArgs false
set_option maxRecDepth 100000
set_option maxHeartbeats 4000000
namespace Go.Proofs.YtmpgcpemnjbgjaaGreat
open Go.Wx Cd Tm Lv
section
variable {w w':World} {X Y:List Nat} {B:BoT} {cx:Ctx} {bm n:Nat}
theorem FoV.mono {C D:Mem} {x:Tr} {h u:Value} (hf:FoV C x h u) (hc:∀ b o v,C b o v -> D b o v):FoV D x h u:=⟨hf.1.mono hc,hf.2.mono hc⟩
theorem FoV.vals {C:Mem} {x:Tr} {h u:Value} (hf:FoV C x h u):∃ a c a' c',h = .slice a (row (headT x)).length c /\ u = .slice a' (argsT x).length c':=by
 obtain ⟨⟨a,c,h1,_⟩,⟨a',c',h2,_⟩⟩:=hf;exact ⟨a,c,a',c',h1,h2⟩
theorem MacV.mono {v1 v2 v3 v4:Value} {C D:Mem} (h:MacV v1 v2 v3 v4 C w bm B cx n) (hc:∀ b o v,C b o v -> D b o v):MacV v1 v2 v3 v4 D w bm B cx n:=⟨h.1,h.2.1.mono hc,h.2.2.1.mono hc,h.2.2.2.1.mono hc,h.2.2.2.2.mono hc⟩
theorem MacV.kp {v1 v2 v3 v4:Value} {C:Mem} (h:MacV v1 v2 v3 v4 C w bm B cx n) {Z:List Nat} (k:Kp Z w w') (hb:bm ∉ Z):MacV v1 v2 v3 v4 C w' bm B cx n:=⟨h.1.kp k hb,h.2⟩
end
def ImN (lo:Nat) (X:List Nat) (w:World):Mem:=fun b o v=>Im X w b o v /\ New lo w b o v
section
variable {lo:Nat} {X:List Nat} {w w':World}
theorem ImN.tr {b o:Nat} {v:Value} (h:ImN lo X w b o v) (k:Kp [] w w'):ImN lo X w' b o v:=⟨h.1.tr k,h.2.1,h.2.2.kp k (by simp)⟩
theorem ImN.kp {Y:List Nat} {b o:Nat} {v:Value} (h:ImN lo X w b o v) (k:Kp Y w w') (hY:∀ y ∈ Y,y < w.heap.size -> y ∈ X):ImN lo X w' b o v:=⟨h.1.kp k hY,h.2.1,h.2.2.kp k fun hb=>h.1.2 (hY b hb h.1.hold)⟩
theorem ImN.sub (lo:Nat) (X:List Nat) (w:World):Sub (ImN lo X w) w:=fun _ _ _ h=>h.1.1
theorem ImN.of_new (hX:∀ x ∈ X,x < w.heap.size) (hlo:lo <= w.heap.size) {b o:Nat} {v:Value} (h:New w.heap.size w' b o v):ImN lo X w' b o v:=⟨Im.of_new hX h,Nat.le_trans hlo h.1,h.2⟩
theorem FoV.im {x:Tr} {h u:Value} (hf:FoV (ImN lo X w) x h u):FoV (Im X w) x h u:=hf.mono fun _ _ _ h=>h.1
theorem IsTm.tvN {x:Tr} {v:Value} (h:IsTm x w w' v) (hX:XL X w) (hlo:lo <= w.heap.size):TmV (ImN lo X w') x v:=TmV.mono h fun _ _ _ h=>ImN.of_new hX hlo h
theorem IsTms.tvN {x:List Tr} {v:Value} (h:IsTms x w w' v) (hX:XL X w) (hlo:lo <= w.heap.size):TmsV (ImN lo X w') x v:=TmsV.mono h fun _ _ _ h=>ImN.of_new hX hlo h
end
def vY' (v1 v2 v3 v4:Value) (lo:Nat) (X:List Nat) (w:World) (bm:Nat) (B:BoT) (cx:Ctx) (r:Except Int (Tr × Nat)) (e:Ending) (w':World):Prop :=
 (match r with
  | .ok q=>∃ h u,e = .returned (.agg #[h,u]) /\ FoV (ImN lo X w') q.1 h u /\ MacV v1 v2 v3 v4 (Im X w') w' bm B cx q.2
  | .error er=>e = .panicked (cU' er)) /\ Kp [bm] w w'
section
variable {B:BoT} {cx:Ctx} {bm:Nat} {v1 v2 v3 v4:Value}
theorem ph' (hB:GoodB B) (hcx:CxOk B cx) (hcl:cx.length <= 90000):∀ (G lo:Nat) (X:List Nat) (w:World) (x:Tr) (room:Int) (n:Nat) (h u:Value),lo <= w.heap.size -> (XL X w) -> bm ∈ X -> MacV v1 v2 v3 v4 (Im X w) w bm B cx n -> Ft (QB B) (cx.length:Int) x -> len x <= room -> room <= 4096 -> n <= 1000000 -> n * 5000 + (row x).length <= G -> FoV (ImN lo X w) x h u ->
  CC 121 #[pt bm,.agg #[h,u],.int .i64 room] w (vY' v1 v2 v3 v4 lo X w bm B cx (bG' B cx G x room n)):=by
 intro G
 induction G using Nat.strongRecOn with
 | _ G ih =>
 intro lo X w x room n h u hlo hX hbm hM hx hl hr hn hG hf;refine oF Tryz.func121 ?_;have hbml:=hX bm hbm;obtain ⟨RES,hRES⟩:∃ r,bG' B cx G x room n = r:=⟨_,rfl⟩
 rw [hRES];have hff:=hf;obtain ⟨ah,ch,au,cu,rfl,rfl⟩:=hf.vals;refine cO (args:=[_,_,_]) 53 [.cell 6 168] τok Tryz.func121 ?_;refine new fun b4 w1 hb4 h4 hs1 hk1=>?_;have h4:Bk w1.heap b4 [.slice ah (row (headT x)).length ch,.slice au (argsT x).length cu] 168:=h4;refine new fun b6 w2 hb6 h6 hs2 hk2=>?_;have k02:=hk1.tr hk2;have h4:=h4.kp hk2 (by simp);have hX2:∀ b ∈ b4 :: b6 :: X,b < w2.heap.size:=fun b hb=>by
  simp only [List.mem_cons] at hb;rcases hb with rfl | rfl | hb
  ·omega
  ·omega
  ·have:=hX b hb; have:=k02.size; omega
 have up0:∀ b o v,Im X w b o v -> Im (b4 :: b6 :: X) w2 b o v:=fun b o v h=>Im.more (X:=X) (fun y hy=>by
  simp only [List.mem_cons] at hy;rcases hy with rfl | rfl | hy
  ·exact .inr (by omega)
  ·exact .inr (by omega)
  ·exact .inl hy) h |>.tr k02
 have hbm2:bm ∈ b4 :: b6 :: X:=by simp [hbm]
 have up0N:∀ b o v,ImN lo X w b o v -> ImN lo (b4 :: b6 :: X) w2 b o v:=fun b o v h=>⟨up0 b o v h.1,h.2.1,h.2.2.kp k02 (by simp)⟩
 refine up' (σ:=Nat × Tr × Nat × Value × Value) (fun _=>[(0,pt bm),(2,.int .i64 room),(4,pt b4),(6,pt b6)])
  (fun q w'=>q.1 <= G /\ q.2.2.1 * 5000 + (row q.2.1).length <= q.1 /\ q.2.2.1 <= n /\ bG' B cx q.1 q.2.1 room q.2.2.1 = RES /\ Ft (QB B) (cx.length:Int) q.2.1 /\ len q.2.1 <= room /\ FoV (ImN lo (b4 :: b6 :: X) w') q.2.1 q.2.2.2.1 q.2.2.2.2 /\ MacV v1 v2 v3 v4 (Im (b4 :: b6 :: X) w') w' bm B cx q.2.2.1 /\
   Bk w'.heap b4 [q.2.2.2.1,q.2.2.2.2] 168 /\ Kp [b4,bm] w2 w' /\ (∃ z1 z2,Bk w'.heap b6 [z1,z2] 168)) (fun q=>q.1) (G,x,n,_,_) rfl
  ⟨rfl,rfl,rfl,rfl,trivial⟩ ⟨Nat.le_refl _,hG,Nat.le_refl _,hRES,hx,hl,hff.mono up0N,MacV.kp (MacV.mono hM up0) k02 (by simp),h4,Kp.refl _ _,_,_,h6⟩ ?_
 rintro ⟨g,y,m,vh,vu⟩ w3 ⟨hgG,hmG,hmn,hres,hy,hyl,hyf,hyM,h4,k23,z1,z2,h6⟩;simp only at hgG hmG hmn hres hy hyl hyf hyM h4
 clear hRES
 have hyp:=ag' y;obtain ⟨g',rfl⟩:∃ g',g = g' + 1:=⟨g - 1,by omega⟩
 have hlo3:lo <= w3.heap.size:=by have:=k02.size; have:=k23.size; omega
 have hX3:∀ b ∈ b4 :: b6 :: X,b < w3.heap.size:=xU hX2 k23;obtain ⟨ah,ch,au,cu,rfl,rfl⟩:=hyf.vals;have fin:∀ {w'},Kp [b4,bm] w2 w' -> Kp [bm] w w':=fun k=>(k02.weak (Y:=[bm]) (by simp)).trans k fun x hx hl=>by
  simp only [List.mem_cons,List.not_mem_nil,or_false] at hx;rcases hx with rfl | rfl
  ·omega
  ·simp
 have hbm4:bm ≠ b4:=by omega
 have hbm6:bm ≠ b6:=by have:=hk1.size; omega
 have hb46:b4 ≠ b6:=by omega
 refine qL' ?_;refine fy' τok (σ:=Tr × Nat × Value × Value) (fun _=>[(0,pt bm),(2,.int .i64 room),(4,pt b4),(6,pt b6)])
  (fun q w'=>ho' B cx (bG' B cx g') room (q.1,q.2.1) = RES /\ q.2.1 <= m /\ Ft (QB B) (cx.length:Int) q.1 /\ len q.1 <= room /\ FoV (ImN lo (b4 :: b6 :: X) w') q.1 q.2.2.1 q.2.2.2 /\ MacV v1 v2 v3 v4 (Im (b4 :: b6 :: X) w') w' bm B cx q.2.1 /\
   Bk w'.heap b4 [q.2.2.1,q.2.2.2] 168 /\ Kp [b4,bm] w2 w' /\ (∃ z1 z2,Bk w'.heap b6 [z1,z2] 168)) ?_ ?_
 ·refine ldN [.slice ah (row (headT y)).length ch,.slice au (argsT y).length cu] rfl (bZ h4) ?_
  refine ab' (tn' (Im.sub _ _) (fun _ _ _ h=>h.hold) hy hyf.im) ?_;rintro e w4 ⟨he,hk4⟩;have k24:=k23.tr hk4;have h44:=h4.kp hk4 (by simp);have h64:=h6.kp hk4 (by simp);have tr4:∀ b o v,Im (b4 :: b6 :: X) w3 b o v -> Im (b4 :: b6 :: X) w4 b o v:=fun b o v h=>h.tr hk4;simp only [bG',qy'] at hres;cases hp:eP' y with
  | none =>
   rw [hp] at he hres;simp only at he hres;subst he;exact ⟨(y,m,_,_),rfl,⟨rfl,rfl,rfl,rfl,trivial⟩,hres,Nat.le_refl _,hy,hyl,hyf.mono (fun _ _ _ h=>h.tr hk4),MacV.kp (MacV.mono hyM tr4) hk4 (by simp),h44,k24,z1,z2,h64⟩
  | some p =>
   rw [hp] at he hres;simp only at he hres;obtain ⟨vp,rfl,hvp⟩:=he;obtain ⟨hpF,hpl⟩:=pb' hy hp;have hvp:TmV (Im (b4 :: b6 :: X) w4) p vp:=hvp.mono fun b o v h=>h.elim (fun h=>h.tr hk4) (Im.of_new hX3);have hvp':=hvp;obtain ⟨ap,cp,rfl,_,_⟩:=hvp';have hX4:∀ b ∈ b4 :: b6 :: X,b < w4.heap.size:=xU hX3 hk4;have hyf4:=hyf.mono (D:=ImN lo (b4 :: b6 :: X) w4) (fun _ _ _ h=>h.tr hk4);have hyM4:=MacV.kp (MacV.mono hyM tr4) hk4 (by simp);have k44:Kp [bm] w4 (dr w4):=(Kp.refl [bm] w4).dr _;have hlen:=hy.len;unfold len at hyl;refine cE' τok (fun z=>Kp [bm] w4 z) ?_;refine rP τok [0,1,2,4,5,8,9] 8 (mB 15 [3,6,7,10,11,12,13,14]) k44 ?_;refine fz' [.slice ah (row (headT y)).length ch,.slice au (argsT y).length cu] rfl (fun z hz j v hj=>by rw [Nat.zero_add]; exact (h44.cl hj).kp hz (by simp; omega)) ?_;refine fz' [.slice ah (row (headT y)).length ch,.slice au (argsT y).length cu] rfl (fun z hz j v hj=>by rw [Nat.zero_add]; exact (h44.cl hj).kp hz (by simp; omega)) ?_;refine aq' τok 3 7 (mB 15 [6,7,10,11,12,13,14]) rfl rfl rfl (by kernel_rfl) ?_;refine ab' (bO' ((Im.sub _ _).dr (w4.drawn + 1)) (fun _ _ _ h=>h.hold) hpF hvp) ?_;rintro e w5 ⟨hh5,hu5,rfl,hT5,hA5,hk5⟩;have hk5:Kp [] w4 w5:=hk5.rd;have kb5:Kp [bm] w4 w5:=hk5.weak (by simp);refine ⟨.inl kb5,?_⟩;refine aq' τok 6 6 (mB 15 [7,10,11,12,13,14]) rfl rfl rfl (by kernel_rfl) ?_;refine ab' (mF' (C:=Im (b4 :: b6 :: X) w4) ((Im.sub _ _).tr hk5) hy hyf4.im) ?_;rintro e w6 ⟨rfl,hk6⟩;have k46:=hk5.tr hk6;have kb6:Kp [bm] w4 w6:=k46.weak (by simp);refine ⟨.inl kb6,?_⟩;refine rP τok [7,10] 4 (mR 15 11) kb6 ?_;refine i6 ?_;refine i6 ?_;refine aq' τok 11 3 (mR 15 12) rfl rfl rfl (by kernel_rfl) ?_;have tr6:∀ b o v,Im (b4 :: b6 :: X) w4 b o v -> Im (b4 :: b6 :: X) w6 b o v:=fun b o v h=>h.tr k46;have hX6:∀ b ∈ b4 :: b6 :: X,b < w6.heap.size:=xU hX4 k46;have hpf:FoV (ImN lo (b4 :: b6 :: X) w6) p hh5 hu5:=⟨(IsTm.kp hT5 hk6 (X:=[]) (by simp)).tvN hX4 (by have:=hk4.size; show lo <= w4.heap.size; omega),(IsTms.kp hA5 hk6 (X:=[]) (by simp)).tvN hX4 (by have:=hk4.size; show lo <= w4.heap.size; omega)⟩
   have hrec:=ih g' (by omega) lo (b4 :: b6 :: X) w6 p (room - len y + len p) m hh5 hu5 (by have:=hk4.size; have:=k46.size; omega) hX6 hbm2 (MacV.kp (MacV.mono hyM4 tr6) k46 (by simp)) hpF (by unfold len; omega) (by unfold len; omega) (by omega) (by omega) hpf;obtain ⟨RP,hRP⟩:∃ r,bG' B cx g' p (room - len y + len p) m = r:=⟨_,rfl⟩
   rw [hRP] at hrec hres;refine ab' hrec ?_;rintro e w7 ⟨he,hk7⟩;have k47:Kp [bm] w4 w7:=kb6.trans hk7 (fun x hx _=>hx);have k27:Kp [b4,bm] w2 w7:=k24.trans k47 (fun x hx _=>by simp at hx; simp [hx]);cases RP with
   | error er =>
    simp only at he hres;subst he;subst hres;exact ⟨rfl,rfl,fin k27⟩
   | ok q =>
    obtain ⟨q1,q2⟩:=q;simp only at he hres;obtain ⟨h7,u7,rfl,hf7,hM7⟩:=he;obtain ⟨i1,i2,i3⟩:=em' hB hcx hcl g' p _ m q1 q2 hpF (by unfold len; omega) (by unfold len; omega) hRP;have hwl:=mG' (p:=q1) hy hp;unfold len at i2;have hwF:=(je' (C:=Im X w) (qk B) hy i1 hp (by omega)).1;refine ⟨.inl k47,?_⟩;refine aq' τok 12 2 (mR 15 13) rfl rfl rfl (by kernel_rfl) ?_;refine ab' (lA' (Im.sub _ _) i1 hf7.im) ?_;rintro e w8 ⟨v8,rfl,hv8,hk8⟩;have k48:=k47.tr hk8;refine ⟨.inl k48,?_⟩;refine aq' τok 13 1 (mR 15 14) rfl rfl rfl (by kernel_rfl) ?_;have tr8:∀ b o v,Im (b4 :: b6 :: X) w4 b o v -> Im (b4 :: b6 :: X) w8 b o v:=fun b o v h=>h.kp k48 (fun y hy _=>by simp at hy; simp [hy,hbm]);have hX7:∀ b ∈ b4 :: b6 :: X,b < w7.heap.size:=xU hX4 k47;have hX8:∀ b ∈ b4 :: b6 :: X,b < w8.heap.size:=xU hX7 hk8;have l7:lo <= w7.heap.size:=by have:=hk4.size; have:=k47.size; omega
    have l8:lo <= w8.heap.size:=by have:=hk8.size; omega
    refine ab' (tp' (C:=ImN lo (b4 :: b6 :: X) w8) (qk B) (ImN.sub _ _ _) (fun _ _ _ h=>h.1.hold) hy i1 hp (by omega) (hyf4.mono fun b o v h=>h.kp k48 (fun y hy _=>by simp at hy; simp [hy,hbm])) (hv8.tvN hX7 l7)) ?_;rintro e w9 ⟨⟨h9,u9,rfl,hf9⟩,hk9⟩;have k49:=k48.tr hk9;refine ⟨.inl k49,?_⟩;have hf9:FoV (ImN lo (b4 :: b6 :: X) w9) (ea' y q1) h9 u9:=hf9.mono fun b o v h=>h.elim (fun h=>h.tr hk9) (ImN.of_new hX8 l8);have hX9:∀ b ∈ b4 :: b6 :: X,b < w9.heap.size:=xU hX8 hk9;obtain ⟨a9,c9,a9',c9',rfl,rfl⟩:=hf9.vals;refine aq' τok 14 0 (mR 15 15) rfl rfl rfl (by kernel_rfl) ?_;refine stN (vs:=[.slice a9 (row (headT (ea' y q1))).length c9,.slice a9' (argsT (ea' y q1)).length c9']) (h44.kp k49 (by simp; omega)) rfl (by simp [Value.oneCell']) fun w10 h10 hs10 hk10=>?_;refine ⟨.inr (by kernel_rfl),?_⟩;refine dP ?_;have tr10:∀ b o v,Im (b4 :: b6 :: X) w9 b o v -> Im (b4 :: b6 :: X) w10 b o v:=fun b o v h=>h.kp hk10 (fun y hy _=>by simp at hy; simp [hy]);have k710:Kp [b4] w7 w10:=((hk8.tr hk9).weak (by simp)).trans hk10 (fun x hx _=>hx);have tr710:∀ b o v,Im (b4 :: b6 :: X) w7 b o v -> Im (b4 :: b6 :: X) w10 b o v:=fun b o v h=>h.kp k710 (fun y hy _=>by simp at hy; simp [hy]);have k210:Kp [b4,bm] w2 w10:=k27.trans k710 (fun x hx _=>by simp at hx; simp [hx]);exact ⟨(ea' y q1,q2,_,_),rfl,⟨rfl,rfl,rfl,rfl,trivial⟩,hres,i3,hwF,by unfold len; simp only; omega,(hf9.mono fun b o v h=>h.kp hk10 (fun y hy _=>by simp at hy; simp [hy])),MacV.kp (MacV.mono hM7 tr710) k710 (by simpa using hbm4),h10,k210,z1,z2,(h64.kp k49 (by simp; omega)).kp hk10 (by simp; omega)⟩
 ·rintro ⟨y1,m1,vh,vu⟩ w5 ⟨hpost,hm1,hyF,hyl1,hyf1,hyM1,h4,k25,z3,z4,h6⟩
  simp only at hpost hm1 hyF hyl1 hyf1 hyM1 h4;obtain ⟨ah1,ch1,au1,cu1,rfl,rfl⟩:=hyf1.vals;have hlen:=hyF.len;have hyp1:=ag' y1;unfold ho' at hpost;simp only at hpost;refine fO' τok ?_;refine ldN [.slice ah1 (row (headT y1)).length ch1,.slice au1 (argsT y1).length cu1] rfl (bZ h4) ?_;refine ab' (rp' hB (Im.sub _ _) (fun _ _ _ h=>h.hold) ⟨_,_,_,_,hyM1⟩ (by omega) hyF hyf1.im) ?_;rintro e w6 ⟨rfl,hk6⟩;have h46:=h4.kp hk6 (by simp);have tr6:∀ b o v,Im (b4 :: b6 :: X) w5 b o v -> Im (b4 :: b6 :: X) w6 b o v:=fun b o v h=>h.tr hk6;have hyf6:=hyf1.mono (D:=ImN lo (b4 :: b6 :: X) w6) (fun _ _ _ h=>h.tr hk6);have hyM6:=MacV.kp (MacV.mono hyM1 tr6) hk6 (by simp);have k26:=k25.tr hk6;have h66:=h6.kp hk6 (by simp);refine br (fun g=>?_) (fun g=>?_)
  ·have g:dx' B cx y1 = false:=by simpa using g
   rw [if_neg (by rw [g]; decide)] at hpost;subst hpost;refine ldN [.slice ah1 (row (headT y1)).length ch1,.slice au1 (argsT y1).length cu1] rfl (bZ h46) ?_;refine stN (vs:=[.slice ah1 (row (headT y1)).length ch1,.slice au1 (argsT y1).length cu1]) h66 rfl (by simp [Value.oneCell']) fun w7 h67 hs7 hk7=>?_;refine mg' τok rfl [_,_] rfl (fun j v hj=>h67.cl hj) ?_;have tr7:∀ b o v,Im (b4 :: b6 :: X) w6 b o v -> Im X w7 b o v:=fun b o v h=>Im.less (X:=b4 :: b6 :: X) (fun y hy=>by simp [hy]) (h.kp hk7 (fun y hy _=>by simp at hy; simp [hy]));refine ⟨⟨_,_,rfl,(hyf6.mono fun b o v h=>⟨tr7 b o v h.1,h.2.1,h.2.2.kp hk7 (fun hb=>h.1.2 (by simp at hb; simp [hb]))⟩),MacV.kp (MacV.mono hyM6 tr7) hk7 (by simpa using hbm6)⟩,(fin k26).trans hk7 fun x hx hl=>by
    obtain rfl:x = b6:=by simpa using hx
    have:=hk1.size;omega⟩
  ·have g:dx' B cx y1 = true:=by simpa using g
   rw [if_pos g] at hpost;have hyM6':=hyM6;obtain ⟨hMb,hO,hE,hP,hC⟩:=hyM6';refine lb hMb ?_;refine ac' (fun g2=>?_) (fun g2=>?_)
   ·have g2:((m1:Nat):Int) = 0:=g2
    rw [if_pos (by omega)] at hpost;subst hpost;refine run (iY' _ w6) ?_;exact ⟨rfl,fin k26⟩
   ·have g2:¬ ((m1:Nat):Int) = 0:=g2
    rw [if_neg (by omega)] at hpost;refine ldN [.slice ah1 (row (headT y1)).length ch1,.slice au1 (argsT y1).length cu1] rfl (bZ h46) ?_;refine ab' (uL' hB (Im.sub _ _) (fun _ _ _ h=>h.hold) ⟨_,_,_,_,hyM6⟩ hcx hcl hyF g hyf6.im) ?_;rintro e w7 ⟨he,hk7⟩;have k27:=k26.tr hk7;cases ho:ny' B cx y1 with
    | error er =>
     rw [ho] at he hpost;simp only at he hpost;subst he;subst hpost;exact ⟨rfl,fin k27⟩
    | ok z =>
     rw [ho] at he hpost;simp only at he hpost;obtain ⟨h7,u7,rfl,hf7⟩:=he;have hzF:=so' hB hcx hcl hyF g ho;have hX6:∀ b ∈ b4 :: b6 :: X,b < w6.heap.size:=xU hX2 k26;have hf7:FoV (ImN lo (b4 :: b6 :: X) w7) z h7 u7:=hf7.mono fun b o v h=>ImN.of_new hX6 (by have:=k26.size; have:=k02.size; omega) h;refine ab' (pd' (Im.sub _ _) hzF hf7.im room) ?_;rintro e w8 ⟨he,hk8⟩;have k28:=k27.tr hk8
     by_cases hbig:room < ((row z).length:Int)
     ·rw [if_pos hbig] at he
      rw [if_pos (by unfold len; exact hbig)] at hpost;subst he;subst hpost;exact ⟨rfl,fin k28⟩
     ·rw [if_neg hbig] at he
      rw [if_neg (by unfold len; exact hbig)] at hpost;subst he;obtain ⟨a7,c7,a7',c7',rfl,rfl⟩:=hf7.vals;have k68:=hk7.tr hk8;refine stN (vs:=[.slice a7 (row (headT z)).length c7,.slice a7' (argsT z).length c7']) (h46.kp k68 (by simp)) rfl (by simp [Value.oneCell']) fun w9 h49 hs9 hk9=>?_;have k29:Kp [b4,bm] w2 w9:=k28.trans hk9 (fun x hx _=>by simp at hx; simp [hx]);have hM9:=(hMb.kp k68 (by simp)).kp hk9 (by simpa using hbm4);refine lb hM9 ?_;refine i6 ?_;refine st hM9 (Nat.lt_of_sub_eq_succ rfl) rfl fun w10 hM10 hs10 hk10=>?_;have hM10:Bk w10.heap bm [.int .i64 B.vars,v1,v2,.int .i64 B.nat,v3,v4,.int .i64 ((m1:Int) - 1)] 166:=hM10;have k210:Kp [b4,bm] w2 w10:=k29.trans hk10 (fun x hx _=>by simp at hx; simp [hx]);have k710:Kp [b4,bm] w7 w10:=((hk8.weak (by simp)).trans hk9 (fun x hx _=>by simp at hx; simp [hx])).trans hk10 (fun x hx _=>by simp at hx; simp [hx]);have tr710:∀ b o v,Im (b4 :: b6 :: X) w7 b o v -> Im (b4 :: b6 :: X) w10 b o v:=fun b o v h=>h.kp k710 (fun y hy _=>by simp at hy; rcases hy with rfl | rfl <;> simp [hbm]);have tr610:∀ b o v,Im (b4 :: b6 :: X) w6 b o v -> Im (b4 :: b6 :: X) w10 b o v:=fun b o v h=>tr710 b o v (h.tr hk7);have hM10':Bk w10.heap bm [.int .i64 B.vars,v1,v2,.int .i64 B.nat,v3,v4,.int .i64 ((m1 - 1:Nat):Int)] 166:=by
       rw [show ((m1 - 1:Nat):Int) = (m1:Int) - 1 by omega];exact hM10
      have h610:=((h66.kp k68 (by simp)).kp hk9 (by simpa using Ne.symm hb46)).kp hk10 (by simpa using Ne.symm hbm6);exact ⟨(g',z,m1 - 1,_,_),by simp only; omega,rfl,⟨rfl,rfl,rfl,rfl,trivial⟩,by show g' <= G; omega,by simp only; have:=hzF.len; omega,by simp only; omega,hpost,hzF,by unfold len; simp only; omega,(hf7.mono fun b o v h=>h.kp k710 (fun y hy _=>by simp at hy; rcases hy with rfl | rfl <;> simp [hbm])),⟨hM10',hO.mono tr610,hE.mono tr610,hP.mono tr610,hC.mono tr610⟩,h49.kp hk10 (by simpa using Ne.symm hbm4),k210,z3,z4,h610⟩
end
theorem rr' (b0 b1 b2:Nat) (w:World) :
  CallsD Tryz.prog 120 #[pt b0,pt b1,pt b2] .returning w fun e u' w'=>(∃ v,e = .returned v) /\ u' = .returning /\ Kp [] w w':=by
 refine callsD_of_wpS Tryz.func120 rfl fun c₀ cs hu=>?_;apply wpS_seq;apply wpS_region;simp [wpOpsS,go_sem,recoverD,hu,Exit.thenS,Instr.typeAssert,Tryz.underlying163,Tryz.zeroValue163];refine wpS_of_wp (Go.wp_mono (aS' τok (n:=13) _ ⟨[(0,pt b0),(1,pt b1),(2,pt b2),(3,pt w.heap.size),(4,.bool false)],[]⟩ _ (fun e s w'=>e = .normal /\ s.d = [] /\ Kp [] w w') ?_ _ (lq' (by simp) rfl ?_)) ?_)
 ·exact ⟨rfl,rfl,Kp.alloc _ _⟩
 ·intro q hq
  simp only [List.mem_cons,List.not_mem_nil,or_false] at hq;rcases hq with rfl | rfl | rfl | rfl | rfl <;> simp
 ·rintro e a' w' ⟨s,hF,rfl,hd,hk⟩
  exact qR' hF hd rfl hu ⟨⟨_,rfl⟩,rfl,hk⟩
theorem pi' {w:World} {b0 b1 b2 T0 T1 T2:Nat} {v0 v1 v2:Value} (h0:Bk w.heap b0 [v0] T0) (h1:Bk w.heap b1 [v1] T1) (h2:Bk w.heap b2 [v2] T2) (n01:b0 ≠ b1) (n02:b0 ≠ b2) (n12:b1 ≠ b2) (er:Int) :
  CallsD Tryz.prog 120 #[pt b0,pt b1,pt b2] (.panicking (cU' er)) w fun e u' w'=>(∃ v,e = .returned v) /\ settle u' = .returning /\ Bk w'.heap b0 [.slice none 0 0] T0 /\ Bk w'.heap b1 [.int .i64 0] T1 /\ Bk w'.heap b2 [.int .i64 er] T2 /\ Kp [b0,b1,b2] w w':=by
 refine callsD_of_wpS Tryz.func120 rfl fun c₀ cs hu=>?_;apply wpS_seq;apply wpS_region;simp [wpOpsS,go_sem,recoverD,hu,Exit.thenS,Instr.typeAssert,Tryz.underlying163,Tryz.zeroValue163];refine wpS_of_wp (Go.wp_mono (aS' τok (n:=13) _ ⟨[(0,pt b0),(1,pt b1),(2,pt b2),(3,pt w.heap.size),(4,.bool true)],[]⟩ _ (fun e s w'=>e = .normal /\ s.d = [] /\ Bk w'.heap b0 [.slice none 0 0] T0 /\ Bk w'.heap b1 [.int .i64 0] T1 /\ Bk w'.heap b2 [.int .i64 er] T2 /\ Kp [b0,b1,b2] w w') ?_ _ (lq' (by simp) rfl ?_)) ?_)
 ·have hk1:Kp [] w (w.alloc (Obj.cells #[Value.int IntKind.i64 er] 163)):=Kp.alloc _ _
  have hB2:Bk (w.alloc (Obj.cells #[Value.int IntKind.i64 er] 163)).heap w.heap.size [.int .i64 er] 163:=by
   show (w.heap.push _)[_]? = _;simp
  obtain ⟨w1,hw1⟩:∃ w1,w1 = w.alloc (Obj.cells #[Value.int IntKind.i64 er] 163):=⟨_,rfl⟩
  obtain ⟨bf,hbf⟩:∃ bf,bf = w.heap.size:=⟨_,rfl⟩
  rw [<- hw1] at hk1 hB2 ⊢;rw [<- hbf] at hB2 ⊢;have g0:=h0.kp hk1 (by simp);have g1:=h1.kp hk1 (by simp);have g2:=h2.kp hk1 (by simp);have l0:=h0.lt;have l1:=h1.lt;have l2:=h2.lt;refine am' τok (fun z=>Bk z.heap bf [.int .i64 er] 163) ?_;refine rV τok [0,1] 3 (mR 5 2) hB2 ?_;refine ldQ (fun z hz=>hz.cl rfl) ?_;refine nV τok 2 2 (mR 5 3) ?_;refine st (b:=b0) (o:=0) g0 (by simp) rfl fun w2 r0 hs2 hk2=>?_;have hk2:Kp [b0] w1 w2:=hk2.rd;have hB3:=hB2.kp hk2 (by simp; omega);refine ⟨.inl hB3,?_⟩;refine nV τok 3 1 (mR 5 4) ?_;refine st (b:=b1) (o:=0) (g1.kp hk2 (by simpa using Ne.symm n01)) (by simp) rfl fun w3 r1 hs3 hk3=>?_;refine ⟨.inl (hB3.kp hk3 (by simp; omega)),?_⟩;refine nV τok 4 0 (mR 5 5) ?_;refine st (b:=b2) (o:=0) ((g2.kp hk2 (by simpa using Ne.symm n02)).kp hk3 (by simpa using Ne.symm n12)) (by simp) rfl fun w4 r2 hs4 hk4=>?_;refine ⟨.inr (by kernel_rfl),?_⟩;refine dV ?_;exact ⟨rfl,rfl,(r0.kp hk3 (by simpa using n01)).kp hk4 (by simpa using n02),r1.kp hk4 (by simpa using n12),r2,(((hk1.weak (by simp)).trans hk2 (fun x hx _=>by simp at hx; simp [hx])).trans hk3 (fun x hx _=>by simp at hx; simp [hx])).trans hk4 (fun x hx _=>by simp at hx; simp [hx])⟩
 ·intro q hq
  simp only [List.mem_cons,List.not_mem_nil,or_false] at hq;rcases hq with rfl | rfl | rfl | rfl | rfl <;> simp
 ·rintro e a' w' ⟨s,hF,rfl,hd,hk⟩
  exact ot' hF hd rfl ⟨⟨_,rfl⟩,rfl,hk⟩
def ax' (f:Int):Nat:=(min (max f 0) 100000).toNat
@[irreducible] def GW:Nat:=600000000
theorem uN':600000000 <= GW:=by unfold GW; exact Nat.le_refl _
def bt' (B:BoT) (cx:Ctx) (x:Tr) (fuel:Int):Except Int (Tr × Nat):=bG' B cx GW x 4096 (ax' fuel)
def BoV (C:Mem) (B:BoT) (v:Value):Prop:=∃ v1 v2 v3,v = .agg #[.int .i64 B.vars,v1,v2,.int .i64 B.nat,v3] /\ SV rOr C B.orders v1 /\ SV rEn C B.ents v2 /\ SV rPr C B.prims v3
theorem BoV.mono {C D:Mem} {B:BoT} {v:Value} (h:BoV C B v) (hc:∀ b o v,C b o v -> D b o v):BoV D B v:=by
 obtain ⟨v1,v2,v3,h0,h1,h2,h3⟩:=h;exact ⟨v1,v2,v3,h0,h1.mono hc,h2.mono hc,h3.mono hc⟩
section
variable {B:BoT} {cx:Ctx} {bm:Nat}
theorem rs' (hB:GoodB B) (hcx:CxOk B cx) (hcl:cx.length <= 90000) {X:List Nat} {w:World} {x:Tr} {n:Nat} {v:Value} {bt:Nat} (hX:XL X w) (hbm:bm ∈ X) (hM:MacC (Im X w) w bm B cx n) (hx:Ft (QB B) (cx.length:Int) x) (hn:n <= 100000) (hbt:Bk w.heap bt [v] 35) (hv:TmV (Im X w) x v) :
  CC 189 #[pt bm,pt bt] w (fun e w'=>(match bG' B cx GW x 4096 n with
   | .ok q=>∃ u,e = .returned u /\ TmV (Im X w') q.1 u /\ MacC (Im X w') w' bm B cx q.2
   | .error er=>e = .panicked (cU' er)) /\ Kp [bm] w w'):=by
 refine oF Tryz.func189 ?_;have hGW:=uN';obtain ⟨RES,hRES⟩:∃ r,bG' B cx GW x 4096 n = r:=⟨_,rfl⟩
 have hlen:=hx.len;obtain ⟨v1,v2,v3,v4,hM⟩:=hM;refine cO (args:=[_,_]) 9 [.tmp 3] τok Tryz.func189 ?_;refine lb hbt ?_;refine ab' (bO' (Im.sub _ _) (fun _ _ _ h=>h.hold) hx hv) ?_;rintro e w1 ⟨h1,u1,rfl,hT1,hA1,hk1⟩;have hX1:=xU hX hk1;have hw:=ph' (bm:=bm) hB hcx hcl GW 0 X w1 x 4096 n h1 u1 (Nat.zero_le _) hX1 hbm (MacV.kp (MacV.mono hM fun _ _ _ h=>h.tr hk1) hk1 (by simp)) hx (by unfold len; omega) (by omega) (by omega) (by omega) ⟨hT1.tvN hX (Nat.zero_le _),hA1.tvN hX (Nat.zero_le _)⟩;rw [hRES] at hw ⊢;refine ab' hw ?_;rintro e w2 ⟨he,hk2⟩;have k02:Kp [bm] w w2:=(hk1.weak (by simp)).trans hk2 (fun x hx _=>hx);cases RES with
 | error er =>
  simp only at he;subst he;exact ⟨rfl,k02⟩
 | ok q =>
  obtain ⟨q1,q2⟩:=q;simp only at he;obtain ⟨h2,u2,rfl,hf2,hM2⟩:=he;have hq:=em' hB hcx hcl GW x 4096 n q1 q2 hx (by unfold len; omega) (by omega) hRES;refine ab' (lA' (Im.sub _ _) hq.1 hf2.im) ?_;rintro e w3 ⟨v3,rfl,hv3,hk3⟩;have hX2:=xU hX k02;exact ⟨⟨v3,rfl,hv3.tv hX2,⟨_,_,_,_,MacV.kp (MacV.mono hM2 fun _ _ _ h=>h.tr hk3) hk3 (by simp)⟩⟩,k02.tr hk3⟩
end
section
variable {B:BoT} {cx:Ctx}
theorem uO' {x:Tr} {er:Int} (h:ny' B cx x = .error er):er = 9:=by
 have h1:∀ {b u:Tr} {v e:Int},aB' b u v = .error e -> e = 9:=fun {b u v e} h=>by
  unfold aB' at h;split at h
  ·injection h with h; exact h.symm
  ·cases h
 have h2:∀ {b:Tr} {l:List Tr} {e:Int},aF' b l = .error e -> e = 9:=fun {b l e} h=>by
  unfold aF' at h;split at h
  ·injection h with h; exact h.symm
  ·cases h
 have h4:∀ {m:Except Int Tr} {l:List Tr} {e:Int},(∀ e,m = .error e -> e = 9) -> (m.bind fun s=>aF' s l) = .error e -> e = 9:=fun {m l e} hm h=>by
  cases m with
  | error e'=>injection h with h; rw [<- h]; exact hm _ rfl
  | ok s=>exact h2 h
 have h3:∀ (f:Tr) (i:Nat) (b:Tr) (e:Int),bS' f i b = .error e -> e = 9:=by
  intro f i
  induction i with
  | zero=>intro b e h; cases h
  | succ i ih =>
   intro b e h;simp only [bS'] at h;cases hs:aB' b (au' (fixAt f i) i 0) 0 with
   | error e'=>rw [hs] at h; injection h with h; rw [<- h]; exact h1 hs
   | ok s=>rw [hs] at h; exact ih _ _ h
 unfold ny' at h;simp only at h;split at h
 ·exact h4 (fun e=>h1) h
 split at h
 ·exact h4 (fun e=>h1) h
 split at h
 ·exact h2 h
 split at h
 ·exact h2 h
 split at h
 ·exact h2 h
 ·exact h4 (fun e=>h3 _ _ _ _) h
theorem gz':∀ (g:Nat) (x:Tr) (room:Int) (n:Nat) (er:Int),bG' B cx g x room n = .error er -> er = 9 \/ er = 10
 | 0,x,room,n,er,h=>by injection h with h; exact .inr h.symm
 | g + 1,x,room,n,er,h=>by
  simp only [bG'] at h;have hpost:∀ q,ho' B cx (bG' B cx g) room q = .error er -> er = 9 \/ er = 10:=fun q h=>by
   unfold ho' at h;split at h
   ·split at h
    ·injection h with h; exact .inr h.symm
    ·cases ho:ny' B cx q.1 with
     | error e=>rw [ho] at h; injection h with h; rw [<- h]; exact .inl (uO' ho)
     | ok z =>
      rw [ho] at h;simp only at h;split at h
      ·injection h with h; exact .inl h.symm
      ·exact gz' g _ _ _ _ h
   ·cases h
  cases hp:qy' (bG' B cx g) x room n with
  | error e =>
   rw [hp] at h;injection h with h
   subst h;unfold qy' at hp;split at hp
   ·cases hp
   ·split at hp
    ·rename_i he
     injection hp with hp
     subst hp;exact gz' g _ _ _ _ he
    ·cases hp
  | ok q=>rw [hp] at h; exact hpost q h
def uP' (X:List Nat) (w:World) (r:Except Int (Tr × Nat)) (e:Ending) (w':World):Prop :=
 (match r with
  | .ok q=>∃ u,e = .returned (.tuple #[u,.int .i64 (q.2:Int),.int .i64 0]) /\ TmV (Im X w') q.1 u
  | .error er=>e = .returned (.tuple #[.slice none 0 0,.int .i64 0,.int .i64 er])) /\ Kp [] w w'
theorem mH' {fid:Nat} (RES:Except Int (Tr × Nat)) {X:List Nat} {w:World} {x:Tr} {fuel:Int} {v u vb vc:Value} {bt:Nat} (hX:XL X w) (hb:BoV (Im X w) B vb) (hc:SV rBd (Im X w) (cx.map bdR) vc)
  (hbt:Bk w.heap bt [v] 35) (hv:TmV (Im X w) x v) (hu:TmV (Im X w) x u)
  (hone:∀ (bm:Nat) (Y:List Nat) (w:World),(XL Y w) -> bm ∈ Y -> MacC (Im Y w) w bm B cx (ax' fuel) -> Bk w.heap bt [v] 35 -> TmV (Im Y w) x v -> bK' Tryz.prog fid /\ Calls Tryz.prog fid #[pt bm,pt bt] w (fun e w'=>(match RES with
   | .ok q=>∃ u,e = .returned u /\ TmV (Im Y w') q.1 u /\ MacC (Im Y w') w' bm B cx q.2
   | .error er=>e = .panicked (cU' er)) /\ Kp [bm] w w')) :
  CC 85 #[vb,vc,u,.int .i64 fuel,.func (.func fid) #[] #[pt bt]] w (uP' X w RES):=by
 refine oF Tryz.func85 ?_;obtain ⟨v1,v2,v3,rfl,hb1,hb2,hb3⟩:=hb;obtain ⟨au,cu,rfl,_,_⟩:=hu;obtain ⟨ac,cc,rfl,hc1,hc2⟩:=hc;refine dP' (args:=[_,_,_,_,_]) 30 [.cell 10 35,.cell 11 3,.cell 12 29] τok Tryz.func85 rfl rfl rfl (Nat.le_of_ble_eq_true rfl) ?_;refine new fun b5 w1 hb5 h5 hs1 hk1=>?_;have h5:Bk w1.heap b5 [.int .i64 B.vars,v1,v2,.int .i64 B.nat,v3] 26:=h5;refine new fun b10 w2 hb10 h10 hs2 hk2=>?_;refine new fun b11 w3 hb11 h11 hs3 hk3=>?_;refine new fun b12 w4 hb12 h12 hs4 hk4=>?_;have k24:=(hk2.tr hk3).tr hk4;have k04:=hk1.tr k24;refine ldN [.int .i64 B.vars,v1,v2,.int .i64 B.nat,v3] rfl (fun j v hj=>by rw [Nat.zero_add]; exact (h5.kp k24 (by simp)).cl hj) ?_;refine jQ' ?_;refine jR' ?_;obtain ⟨n,hn,hn1⟩:∃ n:Nat,min (max fuel 0) 100000 = (n:Int) /\ ax' fuel = n:=⟨_,by unfold ax'; omega,rfl⟩
 rw [hn];refine new fun bm w5 hbm hM hs5 hk5=>?_;have hM:Bk w5.heap bm [.int .i64 B.vars,v1,v2,.int .i64 B.nat,v3,.slice ac (cx.map bdR).length cc,.int .i64 (n:Int)] 166:=hM;have k05:=k04.tr hk5;have h10:=h10.kp ((hk3.tr hk4).tr hk5) (by simp);have h11:=h11.kp (hk4.tr hk5) (by simp);have h12:=h12.kp hk5 (by simp);have l0:=k04.size;have hX5:∀ b ∈ bm :: b10 :: b11 :: b12 :: X,b < w5.heap.size:=fun b hb=>by
  simp only [List.mem_cons] at hb;have l1:=h10.lt;have l2:=h11.lt;have l3:=h12.lt;have l4:=hM.lt;rcases hb with rfl | rfl | rfl | rfl | hb
  ·assumption
  ·assumption
  ·assumption
  ·assumption
  ·have:=hX b hb; have:=k05.size; omega
 have hnew:w.heap.size <= b10 /\ b10 < b11 /\ b11 < b12 /\ b12 < bm:=by
  have:=hk1.size;have:=hk2.size;have:=hk3.size;have:=hk4.size;have:=hk5.size;omega
 have up:∀ b o v,Im X w b o v -> Im (bm :: b10 :: b11 :: b12 :: X) w5 b o v:=fun b o v h=>Im.more (X:=X) (fun y hy=>by
  simp only [List.mem_cons] at hy;rcases hy with rfl | rfl | rfl | rfl | hy
  ·exact .inr (by omega)
  ·exact .inr (by omega)
  ·exact .inr (by omega)
  ·exact .inr (by omega)
  ·exact .inl hy) h |>.tr k05
 have hw:=hone bm _ _ hX5 (by simp) ⟨v1,v2,v3,_,by rw [hn1]; exact hM,hb1.mono up,hb2.mono up,hb3.mono up,⟨ac,cc,rfl,hc1.mono up,hc2⟩⟩ (hbt.kp k05 (by simp)) (hv.mono up);refine ab' hw ?_;rintro e w6 ⟨he,hk6⟩;have n10:b10 ∉ [bm]:=by simp; omega
 have n11:b11 ∉ [bm]:=by simp; omega
 have n12:b12 ∉ [bm]:=by simp; omega
 have h10:=h10.kp hk6 n10;have h11:=h11.kp hk6 n11;have h12:=h12.kp hk6 n12;have kfin:∀ {w':World} {Y:List Nat},Kp Y w6 w' -> (∀ y ∈ Y,w.heap.size <= y) -> Kp [] w w':=fun {w' Y} k hY=>(k05.trans hk6 (fun x hx hl=>by
  obtain rfl:x = bm:=by simpa using hx
  omega)).trans k (fun x hx hl=>by have:=hY x hx; omega)
 cases RES with
 | error er =>
  simp only at he;subst he;refine ⟨_,_,_,120,#[pt b10,pt b11,pt b12],rfl,by simp,by simp [go_sem],(pi' h10 h11 h12 (by omega) (by omega) (by omega) er).mono ?_⟩;rintro e u' w7 ⟨he,hset,r10,r11,r12,hk7⟩;refine ⟨he,hset,?_⟩;refine nu' Tryz.underlying35 (r10.cl rfl) ?_;refine fT' Tryz.underlying3 (r11.cl rfl) ?_;refine fT' Tryz.underlying29 (r12.cl rfl) ?_;exact ⟨rfl,kfin hk7 fun y hy=>by
   simp only [List.mem_cons,List.not_mem_nil,or_false] at hy;omega⟩
 | ok q =>
  simp only at he;obtain ⟨z,rfl,hz,v1',v2',v3',v4',hM6,_⟩:=he;have hzz:=hz;obtain ⟨az,cz,rfl,_,_⟩:=hzz;refine st (b:=b10) (o:=0) h10 (by simp) rfl fun w7 h10' hs7 hk7=>?_;have hM7:=hM6.kp hk7 (by simp; omega);refine am' τok (fun z=>Bk z.heap bm [.int .i64 B.vars,v1',v2',.int .i64 B.nat,v3',v4',.int .i64 (q.2:Int)] 166 /\ Bk z.heap b10 [.slice az (row q.1).length cz] 35) ?_;refine rV τok (rg 0 5) 3 (mR 8 5) ⟨hM7,h10'⟩ ?_;refine ldQ (fun z hz=>hz.2.cl rfl) ?_;refine ldQ (fun z hz=>hz.1.cl rfl) ?_;refine nV τok 5 2 (mR 8 6) ?_;refine st (b:=b10) (o:=0) h10' (by simp) rfl fun w8 h10'' hs8 hk8=>?_;have hk8:Kp [b10] w7 w8:=hk8.rd;refine ⟨.inl ⟨hM7.kp hk8 (by simp; omega),h10''⟩,?_⟩;refine nV τok 6 1 (mR 8 7) ?_;refine st (b:=b11) (o:=0) ((h11.kp hk7 (by simp; omega)).kp hk8 (by simp; omega)) (by simp) rfl fun w9 h11' hs9 hk9=>?_;refine ⟨.inl ⟨(hM7.kp hk8 (by simp; omega)).kp hk9 (by simp; omega),h10''.kp hk9 (by simp; omega)⟩,?_⟩;refine nV τok 7 0 (mR 8 8) ?_;refine st (b:=b12) (o:=0) (((h12.kp hk7 (by simp; omega)).kp hk8 (by simp; omega)).kp hk9 (by simp; omega)) (by simp) rfl fun w10 h12' hs10 hk10=>?_;refine ⟨.inr (by kernel_rfl),?_⟩;refine dV ?_;refine ⟨_,_,_,120,#[pt b10,pt b11,pt b12],rfl,by simp,by simp [go_sem],(rr' b10 b11 b12 w10).mono ?_⟩;rintro e u' w11 ⟨he,rfl,hk11⟩;refine ⟨he,rfl,?_⟩;have r10:=((h10''.kp hk9 (by simp; omega)).kp hk10 (by simp; omega)).kp hk11 (by simp);have r11:=(h11'.kp hk10 (by simp; omega)).kp hk11 (by simp);have r12:=h12'.kp hk11 (by simp);refine nu' Tryz.underlying35 (r10.cl rfl) ?_;refine fT' Tryz.underlying3 (r11.cl rfl) ?_;refine fT' Tryz.underlying29 (r12.cl rfl) ?_;have k611:Kp [b10,b11,b12] w6 w11:=((((hk7.weak (Y:=[b10,b11,b12]) (by simp)).trans hk8 (fun x hx _=>by simp at hx; simp [hx])).trans hk9 (fun x hx _=>by simp at hx; simp [hx])).trans hk10 (fun x hx _=>by simp at hx; simp [hx])).tr hk11;refine ⟨⟨_,rfl,hz.mono fun b o v h=>(h.kp k611 fun y hy _=>?_).less fun y hy=>by simp [hy]⟩,kfin k611 fun y hy=>by
   simp only [List.mem_cons,List.not_mem_nil,or_false] at hy;omega⟩
  simp only [List.mem_cons,List.not_mem_nil,or_false] at hy;rcases hy with rfl | rfl | rfl <;> simp
theorem mI' (hB:GoodB B) (hcx:CxOk B cx) (hcl:cx.length <= 90000) {X:List Nat} {w:World} {x:Tr} {fuel:Int} {v vb vc:Value} (hX:XL X w) (hx:Ft (QB B) (cx.length:Int) x) (hb:BoV (Im X w) B vb) (hc:SV rBd (Im X w) (cx.map bdR) vc) (hv:TmV (Im X w) x v) :
  CC 164 #[vb,vc,v,.int .i64 fuel] w (uP' X w (bt' B cx x fuel)):=by
 refine oF Tryz.func164 ?_;have hbb:=hb;obtain ⟨v1,v2,v3,rfl,hb1,hb2,hb3⟩:=hbb;have hvv:=hv;obtain ⟨av,cv,rfl,_,_⟩:=hvv;have hcc:=hc;obtain ⟨ac,cc,rfl,_,_⟩:=hcc;refine cO (args:=[_,_,_,_]) 20 [.tmp 8,.tmp 9,.tmp 10] τok Tryz.func164 ?_;refine new fun b4 w1 hb4 h4 hs1 hk1=>?_;have h4:Bk w1.heap b4 [.int .i64 B.vars,v1,v2,.int .i64 B.nat,v3] 26:=h4;refine new fun b6 w2 hb6 h6 hs2 hk2=>?_;have h6:Bk w2.heap b6 [.slice av (row x).length cv] 35:=h6;have h4:=h4.kp hk2 (by simp);have k02:=hk1.tr hk2;have hX2:=xU hX k02;refine ldN [.int .i64 B.vars,v1,v2,.int .i64 B.nat,v3] rfl (bZ h4) ?_;refine lb h6 ?_;have up:∀ b o v,Im X w b o v -> Im X w2 b o v:=fun b o v h=>h.tr k02;refine ab' (mH' (bt' B cx x fuel) hX2 (hb.mono up) (hc.mono up) h6 (hv.mono up) (hv.mono up) fun bm Y w hY hbm hM hbt hv=>rs' (bm:=bm) hB hcx hcl hY hbm hM hx (by unfold ax'; omega) hbt hv) ?_;rintro e w3 ⟨he,hk3⟩;cases hr:bt' B cx x fuel with
 | error er =>
  rw [hr] at he;simp only at he;subst he;exact ⟨rfl,k02.tr hk3⟩
 | ok q =>
  rw [hr] at he;obtain ⟨z,rfl,hz⟩:=he;exact ⟨⟨_,rfl,hz⟩,k02.tr hk3⟩
end
def bdN {α β:Type} (m:Except Int (α × Nat)) (k:α -> Nat -> Except Int (β × Nat)):Except Int (β × Nat):=match m with
 | .error e=>.error e
 | .ok q=>k q.1 q.2
theorem fC' {α β:Type} {m:Except Int (α × Nat)} {k:α -> Nat -> Except Int (β × Nat)} {q:β × Nat} (h:bdN m k = .ok q):∃ p,m = .ok p /\ k p.1 p.2 = .ok q:=by
 unfold bdN at h;cases m with
 | error e=>cases h
 | ok p=>exact ⟨p,rfl,h⟩
def kr' (rc:Ctx -> Tr -> Nat -> Except Int (Tr × Nat)) (cx:Ctx):List Tr -> Nat -> Except Int (List Tr × Nat)
 | [],m=>.ok ([],m)
 | k :: r,m=>bdN (rc cx k m) fun k' m=>bdN (kr' rc cx r m) fun r' m=>.ok (k' :: r',m)
def gA' (B:BoT):Nat -> Ctx -> Tr -> Nat -> Except Int (Tr × Nat)
 | 0,_,_,_=>.error 10
 | g + 1,cx,x,n=>bdN (bG' B cx GW x 4096 n) fun z n=>if (kidsT (headT z)).length ≠ 0 \/ (headT z).n.op = 4 \/ (headT z).n.op = 5 \/ (headT z).n.op = 12 then .error 99 else
   bdN (kr' (gA' B g) cx (argsT z) n) fun ys n=>match aF' (headT z) ys with
    | .error e=>.error e
    | .ok y=>.ok (y,n)
section
variable {B:BoT} {cx:Ctx}
theorem jf' {rc:Ctx -> Tr -> Nat -> Except Int (Tr × Nat)} (hr:∀ x n q,Ft (QB B) (cx.length:Int) x -> rc cx x n = .ok q -> Ft (QB B) (cx.length:Int) q.1 /\ q.2 <= n):∀ (l:List Tr) (n:Nat) (q:List Tr × Nat),(∀ y ∈ l,Ft (QB B) (cx.length:Int) y) -> kr' rc cx l n = .ok q -> q.1.length = l.length /\ (∀ y ∈ q.1,Ft (QB B) (cx.length:Int) y) /\ q.2 <= n
 | [],n,q,_,h=>by
  simp only [kr',Except.ok.injEq] at h;subst h;simp
 | k :: r,n,q,hl,h=>by
  simp only [kr'] at h;obtain ⟨p,hp,h⟩:=fC' h;obtain ⟨s,hs,h⟩:=fC' h;injection h with h
  subst h;obtain ⟨a1,a2⟩:=hr _ _ _ (hl k (by simp)) hp;obtain ⟨b1,b2,b3⟩:=jf' hr r _ _ (fun y hy=>hl y (by simp [hy])) hs;refine ⟨by simp [b1],fun y hy=>?_,by simp only; omega⟩;rcases List.mem_cons.1 hy with rfl | hy
  ·exact a1
  ·exact b2 y hy
theorem jg' (hB:GoodB B) (hcx:CxOk B cx) (hcl:cx.length <= 90000):∀ (g:Nat) (x:Tr) (n:Nat) (q:Tr × Nat),Ft (QB B) (cx.length:Int) x -> gA' B g cx x n = .ok q -> Ft (QB B) (cx.length:Int) q.1 /\ q.2 <= n
 | 0,x,n,q,_,h=>by cases h
 | g + 1,x,n,q,hx,h=>by
  simp only [gA'] at h;obtain ⟨p,hp,h⟩:=fC' h;obtain ⟨p1,p2⟩:=p;have hxl:=hx.len;obtain ⟨f1,_,f2⟩:=em' hB hcx hcl GW x 4096 n p1 p2 hx (by unfold len; omega) (by omega) hp;split at h
  ·cases h
  obtain ⟨s,hs,h⟩:=fC' h;obtain ⟨a1,a2,a3⟩:=jf' (fun x n q hx h=>jg' hB hcx hcl g x n q hx h) _ _ _ f1.args hs;split at h
  ·cases h
  ·rename_i y ho
   injection h with h
   subst h;exact ⟨aK' (qk B) f1.head a2 ho,by simp only; omega⟩
end
theorem pj' {x:Tr} (hx:Ok .tm x):headT (headT x) = headT x /\ argsT (headT x) = []:=by
 have:∀ (L:Nat) (x:Tr),(row x).length <= L -> Ok .tm x -> headT (headT x) = headT x /\ argsT (headT x) = []:=by
  intro L
  induction L with
  | zero=>intro x hl; have:=ag' x; omega
  | succ L ih =>
   rintro ⟨n,ks⟩ hl ho
   by_cases h6:n.op = 6
   ·obtain ⟨f,a,rfl,hf,ha⟩:=dj' ho h6
    have hk:kidsT (.mk n [f,a]) = [f,a]:=by simp [kidsT,h6]
    have hs:=ei' (.mk n [f,a]) f (by simp [hk]);rw [bD' h6];exact ih f (by omega) hf
   ·rw [bh' h6]
    exact ⟨bh' h6,bW' h6⟩
 exact this _ x (Nat.le_refl _) hx
section
variable {C:Mem} {w:World} {Q:Nd -> Prop} {N:Int}
theorem nz' (hS:Sub C w) (hold:∀ b o v,C b o v -> b < w.heap.size) {x:Tr} (hx:Ft Q N x) {v:Value} (hv:TmV C x v) :
  CC 124 #[v] w (fun e w'=>(∃ u,e = .returned u) /\ Kp [] w w'):=by
 refine oF Tryz.func124 ?_;obtain ⟨a,c,rfl,h2,h3⟩:=hv;refine cO (args:=[_]) 14 [.tmp 2] τok Tryz.func124 ?_;have hsh:=aI' hS (row x) a c h2;rw [bn' hx.ok hx.len] at hsh;refine ab' hsh ?_;rintro e w1 ⟨rfl,hk1⟩;refine ab' (mp' (hS.tr hk1) (fun b o v h=>Nat.lt_of_lt_of_le (hold b o v h) hk1.size) x hx.ok a c h2 h3 hx.len) ?_;rintro e w2 ⟨vo,vr,os,rfl,_,_,_,hk2⟩;exact ⟨⟨_,rfl⟩,hk1.tr hk2⟩
theorem nA' (hS:Sub C w) {h:Tr} (h4:¬ (h.n.op = 4 \/ h.n.op = 5 \/ h.n.op = 12)) {vh:Value} (va:Value) (hvh:TmV C h vh) :
  CC 125 #[vh,va] w (fun e w'=>e = .returned (.slice none 0 0) /\ w' = w):=by
 refine oF Tryz.func125 ?_;obtain ⟨b,o,c,rfl,_,_,_,hc⟩:=hvh.hd;refine cO (args:=[_,_]) 46 [.tmp 4] τok Tryz.func125 ?_;refine ix 0 rfl (ag' _) ?_;refine ldC hS (by simpa using hc 0 _ rfl) ?_;refine bf' (p:=h.n.op = 4) (by omega) ?_;refine bf' (p:=h.n.op = 5) (by omega) ?_;refine bf' (p:=h.n.op = 12) (by omega) ?_;exact ⟨rfl,rfl⟩
theorem lE' (vh:Value) (a:Option Addr) (c:Nat) (hv:∃ a n c,vh = .slice a n c) :
  CC 126 #[vh,.slice a 0 c] w (fun e w'=>e = .returned vh /\ w' = w):=by
 refine oF Tryz.func126 ?_;obtain ⟨a1,n1,c1,rfl⟩:=hv;refine cO (args:=[_,_]) 52 [.tmp 4] τok Tryz.func126 ?_;exact ⟨rfl,rfl⟩
end
section
variable {B:BoT} {cx:Ctx} {v1 v2 v3 v4:Value}
theorem tq' (hB:GoodB B) (hcx:CxOk B cx) (hcl:cx.length <= 90000):∀ (g:Nat) (X:List Nat) (w:World) (bm:Nat) (x:Tr) (n:Nat) (v:Value) (q:Tr × Nat),(XL X w) -> bm ∈ X -> MacV v1 v2 v3 v4 (Im X w) w bm B cx n -> Ft (QB B) (cx.length:Int) x -> n <= 100000 -> TmV (Im X w) x v -> gA' B g cx x n = .ok q ->
  CC 87 #[pt bm,v] w (fun e w'=>(∃ u,e = .returned u /\ IsTm q.1 w w' u /\ Bk w'.heap bm [.int .i64 B.vars,v1,v2,.int .i64 B.nat,v3,v4,.int .i64 (q.2:Int)] 166) /\ Kp [bm] w w'):=by
 intro g
 induction g with
 | zero=>intro X w bm x n v q _ _ _ _ _ _ h; cases h
 | succ g ih =>
 intro X w bm x n v q hX hbm hM hx hn hv hq;refine oF Tryz.func87 ?_;have hGW:=uN';have hbml:=hX bm hbm;have hxl:=hx.len;simp only [gA'] at hq;obtain ⟨⟨z,n1⟩,hz,hq⟩:=fC' hq;simp only at hq;split at hq
 ·cases hq
 rename_i gk;obtain ⟨⟨ys,n2⟩,hys,hq⟩:=fC' hq;simp only at hq hys;cases ho:aF' (headT z) ys with
 | error e=>rw [ho] at hq; cases hq
 | ok y =>
 rw [ho] at hq;injection hq with hq
 subst hq;obtain ⟨av,cv,rfl,_,_⟩:=id hv;refine cO (args:=[_,_]) 91 [.tmp 4] τok Tryz.func87 ?_;refine ab' (bO' (Im.sub X w) (fun _ _ _ h=>h.hold) hx hv) ?_;rintro e w1 ⟨h1,u1,rfl,hT1,hA1,hk1⟩;have hX1:=xU hX hk1;have hw:=ph' (bm:=bm) hB hcx hcl GW w.heap.size X w1 x 4096 n h1 u1 hk1.size hX1 hbm (MacV.kp (MacV.mono hM fun _ _ _ h=>h.tr hk1) hk1 (by simp)) hx (by unfold len; omega) (by omega) (by omega) (by omega) ⟨hT1.tvN hX (Nat.le_refl _),hA1.tvN hX (Nat.le_refl _)⟩;rw [hz] at hw;refine ab' hw ?_;rintro e w2 ⟨⟨h2,u2,rfl,hf2,hM2⟩,hk2⟩;have k02:Kp [bm] w w2:=(hk1.weak (by simp)).tq hk2;obtain ⟨hzF,_,hn1⟩:=em' hB hcx hcl GW x 4096 n z n1 hx (by unfold len; omega) (by omega) hz;obtain ⟨ah,ch,au,cu,rfl,rfl⟩:=hf2.vals;refine new fun b5 w3 hb5 h5 hs3 hk3=>?_;refine stN (vs:=[.slice ah (row (headT z)).length ch,.slice au (argsT z).length cu]) h5 rfl (by simp [Value.oneCell']) fun w4 h5 hs4 hk4=>?_;have k24:=hk3.newSt hb5 hk4;have k04:Kp [bm] w w4:=k02.tr k24;have hf4:FoV (ImN w.heap.size X w4) z _ _:=hf2.mono fun b o v h=>h.tr k24;have hM4:=hM2.1.kp k24 (by simp);have l2:=k02.size;have l4:=k04.size;have h5n:w.heap.size <= b5:=by omega
 have hX4:XL X w4:=fun b hb=>Nat.lt_of_lt_of_le (hX b hb) l4;have hS4:=ImN.sub w.heap.size X w4;have hold4:∀ b o v,ImN w.heap.size X w4 b o v -> b < w4.heap.size:=fun b o v h=>h.1.hold;have hb54:=h5.lt;refine lb h5 ?_;refine ab' (dv' hS4 hold4 hzF.head hf4.1) ?_;rintro e w5 ⟨uk,rfl,huk,hk5⟩;have hk0:kidsT (headT z) = []:=List.length_eq_zero_iff.1 (by omega);rw [hk0] at huk;obtain ⟨ak,ck,rfl,_,_⟩:=huk;have h55:=h5.kp hk5 (by simp);refine lb h55 ?_;refine ab' (nz' (hS4.tr hk5) (fun b o v h=>Nat.lt_of_lt_of_le (hold4 b o v h) hk5.size) hzF.head hf4.1) ?_;rintro e w6 ⟨⟨ub,rfl⟩,hk6⟩;have k46:=hk5.tr hk6;have h56:=h55.kp hk6 (by simp);refine lb h56 ?_;refine ab' (nA' (hS4.tr k46) (by omega) _ hf4.1) ?_;rintro e w6b ⟨rfl,hw6⟩;subst w6b;have hMb:=hM4.kp k46 (by simp);obtain ⟨ac,cc,rfl,hc1,hc2⟩:=id hM.2.2.2.2;refine lb hMb ?_;refine lp τok (σ:=Unit) (fun _=>[(0,pt bm),(5,pt b5),(6,.slice ak 0 ck),(9,.slice ac (cx.map bdR).length cc),(32,.slice ak 0 ck),(33,.int .i64 0),(34,.int .i64 0)]) (fun _ w'=>w' = w6) (fun _=>0) () rfl ⟨rfl,rfl,rfl,rfl,rfl,rfl,rfl,trivial⟩ rfl ?_;rintro _ w7 rfl;refine st (b:=bm) (o:=5) hMb (by simp) rfl fun w8 hM8 hs8 hk8=>?_;have hM8:Bk w8.heap bm [.int .i64 B.vars,v1,v2,.int .i64 B.nat,v3,.slice ac (cx.map bdR).length cc,.int .i64 (n1:Int)] 166:=hM8;have k48:Kp [bm] w4 w8:=(k46.weak (by simp)).tq hk8;have k08:Kp [bm] w w8:=k04.tq k48;have hnb:b5 ≠ bm:=by omega
 have h58:=h5.kp k48 (by simpa using hnb);have tr8:∀ b o v,ImN w.heap.size X w4 b o v -> New w.heap.size w8 b o v:=fun b o v h=>⟨h.2.1,h.2.2.kp k48 (by have:=h.2.1; simp; omega)⟩
 refine lb h58 ?_;have hal:=(hzF.few)
 refine lp τok (σ:=List Tr × Nat) (fun q=>[(0,pt bm),(5,pt b5),(6,.slice ak 0 ck),(63,.slice au (argsT z).length cu),(64,.int .i64 ((argsT z).length:Int)),(65,.int .i64 (q.1.length:Int))])
  (fun q w'=>q.1.length <= (argsT z).length /\ kr' (gA' B g) cx ((argsT z).drop q.1.length) q.2 = .ok (ys.drop q.1.length,n2) /\ q.1 = ys.take q.1.length /\ q.2 <= 100000 /\ TmsV (New w.heap.size w') (q.1 ++ (argsT z).drop q.1.length) (.slice au (argsT z).length cu) /\ TmV (New w.heap.size w') (headT z) (.slice ah (row (headT z)).length ch) /\
   Bk w'.heap bm [.int .i64 B.vars,v1,v2,.int .i64 B.nat,v3,.slice ac (cx.map bdR).length cc,.int .i64 (q.2:Int)] 166 /\ Bk w'.heap b5 [.slice ah (row (headT z)).length ch,.slice au (argsT z).length cu] 168 /\ Kp [bm] w w') (fun q=>(argsT z).length - q.1.length) ([],n1) rfl ⟨rfl,rfl,rfl,rfl,rfl,rfl,trivial⟩
  ⟨Nat.zero_le _,hys,rfl,by omega,hf4.2.mono tr8,hf4.1.mono tr8,hM8,h58,k08⟩ ?_
 rintro ⟨dn,m⟩ wa ⟨hdl,hrec,hdn,hm,hargs,hhead,hMa,h5a,k0a⟩;simp only at hdl hrec hdn hm hargs hhead hMa;have hXa:=xU hX k0a;have nIm:∀ b o v,New w.heap.size wa b o v -> Im X wa b o v:=fun b o v h=>⟨h.2.cl,fun hb=>by have:=hX b hb; have:=h.1; omega⟩
 have l0a:=k0a.size;refine ac' (fun g1=>?_) (fun g1=>?_)
 ·have g1:(dn.length:Int) < (argsT z).length:=g1
  obtain ⟨a,ha,had⟩:=af' (l:=argsT z) (k:=dn.length) (by omega);rw [had] at hrec hargs;simp only [kr'] at hrec;obtain ⟨p,hp,hrec⟩:=fC' hrec;obtain ⟨s,hs,hrec⟩:=fC' hrec;injection hrec with hrec
  have e1:p.1 :: s.1 = ys.drop dn.length:=congrArg Prod.fst hrec;have e2:s.2 = n2:=congrArg Prod.snd hrec;have hget:(dn ++ a :: (argsT z).drop (dn.length + 1))[dn.length]? = some a:=by simp
  have haF:Ft (QB B) (cx.length:Int) a:=hzF.args a (List.mem_of_getElem? ha);obtain ⟨hpF,hpn⟩:=jg' hB hcx hcl g a m p haF hp;obtain ⟨b0,o0,c0,e3,za,hza,hzaT⟩:=hargs.get hget;injection e3 with q1 q2 q3
  subst q1 q3;refine ix dn.length rfl (by omega) ?_;have hb0:=hza.2.lt;refine ld (hza.2.cl).cell ?_;have hbm0:b0 ≠ bm:=by have:=hza.1; omega
  have hb05:b0 ≠ b5:=by
   obtain ⟨_,_,_,e4,_,hz2,_⟩:=hf2.2.get ha;injection e4 with e4
   injection e4 with e4
   injection e4 with e4
   subst e4;have:=hz2.2.2.lt;omega
  obtain ⟨aq,cq,rfl,_,_⟩:=id hzaT;have up:∀ b o v,Im X w b o v -> Im X wa b o v:=fun b o v h=>h.kp k0a fun y hy _=>by
   obtain rfl:y = bm:=by simpa using hy
   exact hbm
  refine am' τok (fun z=>Kp [bm] wa z) ?_;refine rV τok (rg 0 5) 3 (mR 8 5) ((Kp.refl [bm] wa).dr _) ?_;refine ldQ (fun z hz=>(h5a.kp hz (by simpa using hnb)).cl rfl) ?_;refine nV τok 5 2 (mR 8 6) ?_;refine ab' (ih X (dr wa) bm a m _ p hXa hbm ⟨hMa,hM.2.1.mono up,hM.2.2.1.mono up,hM.2.2.2.1.mono up,hM.2.2.2.2.mono up⟩ haF hm (hzaT.mono nIm) hp) ?_;rintro e wb ⟨⟨u,rfl,hT,hMb2⟩,hkb⟩;have hkb:Kp [bm] wa wb:=hkb.rd;have k0b:Kp [bm] w wb:=k0a.tq hkb;obtain ⟨ar,cr,rfl,hT1,hT2⟩:=hT;refine ⟨.inl hkb,?_⟩;refine rV τok [6] 1 (mR 8 7) hkb ?_;refine ix dn.length rfl (by omega) ?_;have trb:∀ b o v,New w.heap.size wa b o v -> New w.heap.size wb b o v:=fun b o v h=>⟨h.1,h.2.kp hkb (by have:=h.1; simp; omega)⟩
  obtain ⟨b',o',c',e',hlo',hlt',hput⟩:=(hargs.mono trb).put (i:=dn.length) (by simp);injection e' with e' _ _
  injection e' with e'
  injection e' with e4 e5 _
  subst e4 e5;refine nV τok 7 0 (mR 8 8) ?_;refine hput _ rfl fun wc hsc hkc hafter hkeep=>?_;refine ⟨.inr (by kernel_rfl),?_⟩;refine dV ?_;refine i6 ?_;have hset:(dn ++ a :: (argsT z).drop (dn.length + 1)).set dn.length p.1 = (dn ++ [p.1]) ++ (argsT z).drop (dn.length + 1):=by simp
  have hlen1:(dn ++ [p.1]).length = dn.length + 1:=by simp
  have hyd:ys[dn.length]? = some p.1:=by
   have:=congrArg (·[0]?) e1
   simpa using this.symm
  have hys1:ys.drop (dn.length + 1) = s.1:=by
   have:=congrArg (·.drop 1) e1
   simpa [List.drop_drop] using this.symm
  refine ⟨(dn ++ [p.1],p.2),by simp only [hlen1]; omega,rfl,⟨rfl,rfl,rfl,rfl,rfl,?_,trivial⟩,?_⟩
  ·show some (Value.int .i64 _) = some (Value.int .i64 _)
   rw [hlen1]
   rfl
  simp only [hlen1];refine ⟨by omega,by rw [hs,hys1,<- e2],by rw [al' hyd,<- hdn],by omega,?_,hkeep (hhead.mono trb),hMb2.kp hkc (by simpa using hbm0.symm),(h5a.kp hkb (by simpa using hnb)).kp hkc (by simpa using hb05.symm),k0b.trans hkc fun x hx hl=>by
   obtain rfl:x = b0:=by simpa using hx
   have:=hza.1;omega⟩
  rw [<- hset];have:=hafter (D:=New w.heap.size wc) (p:=p.1) ⟨ar,cr,rfl,hT1.mono fun b o v h=>⟨Nat.le_trans l0a h.1,h.2.kp hkc (by have:wa.heap.size <= b:=h.1; simp; omega)⟩,hT2⟩ (fun _ _ _ h=>h);exact this
 ·have g1:¬ (dn.length:Int) < (argsT z).length:=g1
  have hd0:(argsT z).drop dn.length = []:=List.drop_eq_nil_of_le (by omega);rw [hd0] at hrec hargs;simp only [kr',Except.ok.injEq,Prod.mk.injEq] at hrec;obtain ⟨e1,rfl⟩:=hrec;have hyl:ys = dn:=by
   have:=List.take_append_drop dn.length ys;rw [<- e1,List.append_nil,<- hdn] at this;exact this.symm
  subst hyl;rw [List.append_nil] at hargs;have hyF:Ft (QB B) (cx.length:Int) y:=by
   obtain ⟨_,h2,_⟩:=jf' (fun x n q hx h=>jg' hB hcx hcl g x n q hx h) _ _ _ hzF.args hys;exact aK' (qk B) hzF.head h2 ho
  have hye:y = ak' (headT z) ys:=by
   unfold aF' at ho;split at ho
   ·cases ho
   ·injection ho with ho
    exact ho.symm
  obtain ⟨hh1,hh2⟩:=fn' ys (headT z) hzF.head.ok;have hhh:headT (headT z) = headT z /\ argsT (headT z) = []:=pj' hzF.ok;rw [hhh.1] at hh1;rw [hhh.2,List.nil_append] at hh2;refine lb h5a ?_;refine ab' (lE' (.slice ah (row (headT z)).length ch) ak ck ⟨_,_,_,rfl⟩) ?_;rintro e wb ⟨rfl,hwb⟩;subst wb;refine st (b:=b5) (o:=0) h5a (by simp) rfl fun wc h5c hsc hkc=>?_;have h5c:Bk wc.heap b5 [.slice ah (row (headT z)).length ch,.slice au (argsT z).length cu] 168:=h5c;refine lb h5c ?_;refine bf' (p:=(4096:Int) < ((row (headT z)).length:Int)) (by have:=hzF.head.len; omega) ?_;refine ldN [.slice ah (row (headT z)).length ch,.slice au (argsT z).length cu] rfl (bZ h5c) ?_;have nb5:∀ b o v,New w.heap.size wa b o v -> New w.heap.size wc b o v:=fun b o v h=>by
   by_cases hb:b = b5
   ·subst hb
    obtain ⟨c,T,q1,q2⟩:=h.2;rw [show wa.heap[b]? = _ from h5a] at q1;injection q1 with q1
    injection q1 with q1 _ _
    subst q1;exact ⟨h.1,h5c.cu (by simpa using q2)⟩
   ·exact ⟨h.1,h.2.kp hkc (by simpa using hb)⟩
  have hfy:FoV (New w.heap.size wc) y (.slice ah (row (headT z)).length ch) (.slice au (argsT z).length cu):=by
   unfold FoV;rw [hye,hh1,hh2];exact ⟨hhead.mono nb5,hargs.mono nb5⟩
  refine ab' (lA' (New.sub _ _) hyF hfy) ?_;rintro e wd ⟨vd,rfl,hvd,hkd⟩;have k0c:Kp [bm] w wc:=k0a.trans hkc fun x hx hl=>by
   obtain rfl:x = b5:=by simpa using hx
   omega
  exact ⟨⟨_,rfl,hvd.up k0c.size,(hMa.kp hkc (by simpa using hnb.symm)).kp hkd (by simp)⟩,k0c.tr hkd⟩
end
end Go.Proofs.YtmpgcpemnjbgjaaGreat
namespace Go.Proofs.YtmpgcpemnjbgjaaGreat
open Go.Shelf Go.RowKit Go.Maps Go.Sort Go.Wx
def kt':Go.Shelf.Ren:=⟨fun | 7=>162 | 10=>188 | n=>n,fun | 23=>218 | 26=>3 | 3=>3 | 28=>222 | 0=>0 | 27=>221 | 33=>201 | 4=>4 | n=>n,fun | n=>n⟩
theorem uQ':Go.Proofs.SlLaysZI.n7 Tryz.prog kt':={
 mixed:=by kernel_rfl
 f7:=⟨Tryz.f162.name,by decide,Tryz.func162.trans (congrArg some (by kernel_rfl))⟩
 f10:=⟨Tryz.f188.name,by decide,Tryz.func188.trans (congrArg some (by kernel_rfl))⟩
 t0:=Tryz.underlying0
 a0:=Tryz.isAgg0
 z0:=Tryz.sizeOf0
 v0:=Tryz.zeroValue0
 t4:=Tryz.underlying4
 a4:=Tryz.isAgg4
 z4:=Tryz.sizeOf4
 v4:=Tryz.zeroValue4
 t23:=Tryz.underlying218
 a23:=Tryz.isAgg218
 z23:=Tryz.sizeOf218
 v23:=Tryz.zeroValue218
 t26:=Tryz.underlying3
 a26:=Tryz.isAgg3
 z26:=Tryz.sizeOf3
 v26:=Tryz.zeroValue3
 t27:=Tryz.underlying221
 a27:=Tryz.isAgg221
 z27:=Tryz.sizeOf221
 v27:=Tryz.zeroValue221
 t28:=Tryz.underlying222
 a28:=Tryz.isAgg222
 z28:=Tryz.sizeOf222
 v28:=Tryz.zeroValue222
 t33:=Tryz.underlying201
 a33:=Tryz.isAgg201
 z33:=Tryz.sizeOf201
 v33:=Tryz.zeroValue201 }
def gB':Go.Shelf.Ren:=⟨fun | 6=>161 | 8=>186 | 9=>187 | 11=>197 | 13=>199 | 12=>198 | 23=>215 | 24=>216 | 14=>206 | 15=>207 | 16=>208 | 17=>209 | 18=>210 | 19=>211 | 20=>212 | 21=>213 | 22=>214 | 25=>224 | 26=>225 | 27=>226 | 28=>227 | 29=>228 | 30=>229 | 31=>234 | n=>n,fun | 26=>3 | 28=>222 | 24=>172 | 0=>0 | 3=>3 | 37=>259 | 48=>272 | 50=>274 | 4=>4 | 40=>266 | 39=>265 | 45=>195 | 5=>5 | 9=>9 | 51=>279 | 55=>283 | 57=>286 | 58=>287 | 33=>201 | n=>n,fun | n=>n⟩
theorem tr':Go.Proofs.SlLaysZI.n6 Tryz.prog gB':={
 mixed:=by kernel_rfl
 f6:=⟨Tryz.f161.name,by decide,Tryz.func161.trans (congrArg some (by kernel_rfl))⟩
 f8:=⟨Tryz.f186.name,by decide,Tryz.func186.trans (congrArg some (by kernel_rfl))⟩
 f11:=⟨Tryz.f197.name,by decide,Tryz.func197.trans (congrArg some (by kernel_rfl))⟩
 t0:=Tryz.underlying0
 a0:=Tryz.isAgg0
 z0:=Tryz.sizeOf0
 v0:=Tryz.zeroValue0
 t24:=Tryz.underlying172
 a24:=Tryz.isAgg172
 z24:=Tryz.sizeOf172
 v24:=Tryz.zeroValue172
 t26:=Tryz.underlying3
 a26:=Tryz.isAgg3
 z26:=Tryz.sizeOf3
 v26:=Tryz.zeroValue3
 t28:=Tryz.underlying222
 a28:=Tryz.isAgg222
 z28:=Tryz.sizeOf222
 v28:=Tryz.zeroValue222
 i26:=by kernel_rfl }
def pk':Go.Shelf.Ren:=⟨fun | 5=>187 | 8=>199 | 7=>198 | 19=>215 | 20=>216 | 10=>206 | 11=>207 | 12=>208 | 13=>209 | 14=>210 | 15=>211 | 16=>212 | 17=>213 | 18=>214 | 30=>224 | 31=>225 | 32=>226 | 33=>227 | 34=>228 | 35=>229 | 40=>234 | n=>n,fun | 23=>172 | 25=>3 | 3=>3 | 32=>259 | 22=>172 | 0=>0 | 44=>272 | 46=>274 | 4=>4 | 36=>266 | 35=>265 | 41=>195 | 5=>5 | 9=>9 | 53=>279 | 57=>283 | 63=>286 | 64=>287 | n=>n,fun | n=>n⟩
theorem uR':Go.Proofs.SlLaysM.n5 Tryz.prog pk':={
 mixed:=by kernel_rfl
 f5:=⟨Tryz.f187.name,by decide,Tryz.func187.trans (congrArg some (by kernel_rfl))⟩
 f7:=⟨Tryz.f198.name,by decide,Tryz.func198.trans (congrArg some (by kernel_rfl))⟩
 f8:=Tryz.func199.trans (congrArg some (by kernel_rfl))
 f10:=⟨Tryz.f206.name,by decide,Tryz.func206.trans (congrArg some (by kernel_rfl))⟩
 f11:=⟨Tryz.f207.name,by decide,Tryz.func207.trans (congrArg some (by kernel_rfl))⟩
 f12:=⟨Tryz.f208.name,by decide,Tryz.func208.trans (congrArg some (by kernel_rfl))⟩
 f13:=⟨Tryz.f209.name,by decide,Tryz.func209.trans (congrArg some (by kernel_rfl))⟩
 f14:=⟨Tryz.f210.name,by decide,Tryz.func210.trans (congrArg some (by kernel_rfl))⟩
 f15:=⟨Tryz.f211.name,by decide,Tryz.func211.trans (congrArg some (by kernel_rfl))⟩
 f16:=⟨Tryz.f212.name,by decide,Tryz.func212.trans (congrArg some (by kernel_rfl))⟩
 f17:=⟨Tryz.f213.name,by decide,Tryz.func213.trans (congrArg some (by kernel_rfl))⟩
 f18:=⟨Tryz.f214.name,by decide,Tryz.func214.trans (congrArg some (by kernel_rfl))⟩
 f19:=Tryz.func215.trans (congrArg some (by kernel_rfl))
 f20:=Tryz.func216.trans (congrArg some (by kernel_rfl))
 f30:=⟨Tryz.f224.name,by decide,Tryz.func224.trans (congrArg some (by kernel_rfl))⟩
 f31:=Tryz.func225.trans (congrArg some (by kernel_rfl))
 f32:=Tryz.func226.trans (congrArg some (by kernel_rfl))
 f33:=⟨Tryz.f227.name,by decide,Tryz.func227.trans (congrArg some (by kernel_rfl))⟩
 f34:=⟨Tryz.f228.name,by decide,Tryz.func228.trans (congrArg some (by kernel_rfl))⟩
 f35:=⟨Tryz.f229.name,by decide,Tryz.func229.trans (congrArg some (by kernel_rfl))⟩
 f40:=⟨Tryz.f234.name,by decide,Tryz.func234.trans (congrArg some (by kernel_rfl))⟩
 t0:=Tryz.underlying0
 a0:=Tryz.isAgg0
 z0:=Tryz.sizeOf0
 v0:=Tryz.zeroValue0
 t3:=Tryz.underlying3
 a3:=Tryz.isAgg3
 z3:=Tryz.sizeOf3
 v3:=Tryz.zeroValue3
 t4:=Tryz.underlying4
 a4:=Tryz.isAgg4
 z4:=Tryz.sizeOf4
 v4:=Tryz.zeroValue4
 t5:=Tryz.underlying5
 a5:=Tryz.isAgg5
 z5:=Tryz.sizeOf5
 v5:=Tryz.zeroValue5
 t9:=Tryz.underlying9
 a9:=Tryz.isAgg9
 z9:=Tryz.sizeOf9
 v9:=Tryz.zeroValue9
 t22:=Tryz.underlying172
 a22:=Tryz.isAgg172
 z22:=Tryz.sizeOf172
 v22:=Tryz.zeroValue172
 t23:=Tryz.underlying172
 a23:=Tryz.isAgg172
 z23:=Tryz.sizeOf172
 v23:=Tryz.zeroValue172
 t25:=Tryz.underlying3
 a25:=Tryz.isAgg3
 z25:=Tryz.sizeOf3
 v25:=Tryz.zeroValue3
 t32:=Tryz.underlying259
 a32:=Tryz.isAgg259
 z32:=Tryz.sizeOf259
 v32:=Tryz.zeroValue259
 t35:=Tryz.underlying265
 a35:=Tryz.isAgg265
 z35:=Tryz.sizeOf265
 v35:=Tryz.zeroValue265
 t36:=Tryz.underlying266
 a36:=Tryz.isAgg266
 z36:=Tryz.sizeOf266
 v36:=Tryz.zeroValue266
 t41:=Tryz.underlying195
 a41:=Tryz.isAgg195
 z41:=Tryz.sizeOf195
 v41:=Tryz.zeroValue195
 t44:=Tryz.underlying272
 a44:=Tryz.isAgg272
 z44:=Tryz.sizeOf272
 v44:=Tryz.zeroValue272
 t46:=Tryz.underlying274
 a46:=Tryz.isAgg274
 z46:=Tryz.sizeOf274
 v46:=Tryz.zeroValue274
 t53:=Tryz.underlying279
 a53:=Tryz.isAgg279
 z53:=Tryz.sizeOf279
 v53:=Tryz.zeroValue279
 t57:=Tryz.underlying283
 a57:=Tryz.isAgg283
 z57:=Tryz.sizeOf283
 v57:=Tryz.zeroValue283
 t63:=Tryz.underlying286
 a63:=Tryz.isAgg286
 z63:=Tryz.sizeOf286
 v63:=Tryz.zeroValue286
 t64:=Tryz.underlying287
 a64:=Tryz.isAgg287
 z64:=Tryz.sizeOf287
 v64:=Tryz.zeroValue287 }
theorem uS' (m:Nat):AnyZI.SortsIn Tryz.prog gB' Fence.wide m :=
 ⟨fun blk off cap ss W hH hblk hsz=>callsIn_wide.2 (AnyM.slices_Sort_int uR' blk off cap ss W hH hblk hsz),
 fun p cap W=>callsIn_wide.2 (AnyM.slices_Sort_int_none uR' p cap W)⟩
theorem rt' {w w':World} (h:Below w.heap.size w w'):Kp [] w w':=⟨h.os,h.tape,h.output,h.size,fun b hb _=>h.block b hb⟩
theorem ts' (b:Nat) (w:World):CC 162 #[.map (some b)] w (fun e w'=>e = .returned (.func (.func 188) #[] #[.pointer (some ⟨w.heap.size,0,none⟩)]) /\ w' = w.alloc (.cells #[.map (some b)] 218)) :=
 ⟨⟨_,Tryz.func162,rfl,by decide⟩,callsIn_wide.1 (AnyZI.keys_in uQ' Fence.wide 5 trivial rfl (some b) w)⟩
theorem pl' {H:Type} {b n:Nat} {D:DataW H} {R:Value -> Option (DataW H × List MemPlace)} {w:World} (hown:w.ownsMap Tryz.prog 3 R b n D) (hmax:Maps.size D <= maxLen) (hbytes:Maps.size D * 8 <= 140737488355328) :
  CC 161 #[.func (.func 188) #[] #[.pointer (some ⟨w.heap.size,0,none⟩)]] (w.alloc (.cells #[.map (some b)] 218)) (fun e w'=>∃ (v:Value) (ss:List Int),e = .returned v /\ ss.Perm (intKeys D) /\
   w'.ownsRow (w.heap.size + 1) 3 1 v ss.length ((ss.mergeSort (fun x y=>decide (x <= y))).map (Value.int .i64)) /\ Kp [] (w.alloc (.cells #[.map (some b)] 218)) w'):=by
 refine oF Tryz.func161 ?_;have hbl:=hown.lt;have hseq:SeqGives Fence.wide 2 Tryz.prog 188 #[.pointer (some ⟨w.heap.size,0,none⟩)] encZ (fun ss=>ss.Perm (intKeys D)) (Maps.size D) (w.alloc (.cells #[.map (some b)] 218)) :=
  AnyZI.keys_gives (ρ:=kt') { uQ' with } Fence.wide _ trivial rfl (by omega) w.heap.size b n D _ (by simp) (by simp) (by
   obtain ⟨es,clock,hb,Ft,hs,hD⟩:=hown;exact ⟨es,clock,(Below.heap_alloc _ _ b hbl).trans hb,Ft,hs,hD⟩)
 have cS:=AnyZI.sorted_in tr' Fence.wide 5 trivial trivial trivial trivial rfl (by omega) (uS' _) (enters_of Tryz.func187 (by kernel_rfl) rfl) 188 #[.pointer (some ⟨w.heap.size,0,none⟩)] trivial (enters_of Tryz.func188 (by kernel_rfl) rfl) _ _ hmax hbytes _ hseq
 change CallsIn _ _ Tryz.prog 161 _ _ _ at cS
 refine (callsIn_wide.1 cS).mono ?_;rintro e w' ⟨v,ss,rfl,hS,hrow,_,hb⟩;rw [World.size_alloc] at hrow;exact ⟨v,ss,rfl,hS,hrow,rt' hb⟩
end Go.Proofs.YtmpgcpemnjbgjaaGreat
namespace Go.Proofs.YtmpgcpemnjbgjaaGreat
open Go.Wx Lv
def pm' (f:Int -> Option Int) (k v:Int):Int -> Option Int:=fun x=>if x = k then some v else f x
def upd (f:Int -> Option Int) (x:Atom):Int -> Option Int:=match f x.var with
 | none=>pm' f x.var x.add
 | some v=>if v < x.add then pm' f x.var x.add else f
def hA' (l:List Atom):Int -> Option Int:=l.foldl upd (fun _=>none)
theorem ku' (l:List Atom) (x:Atom):hA' (l ++ [x]) = upd (hA' l) x:=by simp [hA']
theorem sp' {f:Int -> Option Int} {x:Atom} {k:Int} (h:k ≠ x.var):upd f x k = f k:=by
 unfold upd;cases hf:f x.var with
 | none=>simp [pm',h]
 | some v =>
  simp only;split
  ·simp [pm',h]
  ·rfl
theorem jh' (f:Int -> Option Int) (x:Atom):upd f x x.var = some (match f x.var with | none=>x.add | some v=>if v < x.add then x.add else v):=by
 unfold upd;cases hf:f x.var with
 | none=>simp [pm']
 | some v =>
  simp only;split
  ·simp [pm']
  ·exact hf
theorem fold_from {k v:Int}:∀ (l:List Atom) (f:Int -> Option Int),l.foldl upd f k = some v -> f k = some v \/ ∃ y ∈ l,y.var = k /\ y.add = v
 | [],f,h=>.inl h
 | x :: l,f,h=>by
  rcases fold_from l (upd f x) h with h1 | ⟨y,hy,h1⟩
  ·by_cases hk:k = x.var
   ·subst hk
    rw [jh'] at h1;cases hf:f x.var with
    | none=>rw [hf] at h1; simp at h1; exact .inr ⟨x,by simp,rfl,h1⟩
    | some u =>
     rw [hf] at h1;simp only at h1;split at h1
     ·exact .inr ⟨x,by simp,rfl,by simpa using h1⟩
     ·exact .inl (by simpa using h1)
   ·rw [sp' hk] at h1
    exact .inl h1
  ·exact .inr ⟨y,by simp [hy],h1⟩
theorem pn' {k:Int}:∀ (l:List Atom) (f:Int -> Option Int) (u:Int),f k = some u -> ∃ v,l.foldl upd f k = some v /\ u <= v
 | [],f,u,h=>⟨u,h,Int.le_refl _⟩
 | x :: l,f,u,h=>by
  have:∃ u',upd f x k = some u' /\ u <= u':=by
   by_cases hk:k = x.var
   ·subst hk
    rw [jh',h];simp only;split
    ·exact ⟨x.add,rfl,by omega⟩
    ·exact ⟨u,rfl,Int.le_refl _⟩
   ·exact ⟨u,by rw [sp' hk]; exact h,Int.le_refl _⟩
  obtain ⟨u',h1,h2⟩:=this;obtain ⟨v,h3,h4⟩:=pn' l (upd f x) u' h1;exact ⟨v,h3,by omega⟩
theorem mJ':∀ (l:List Atom) (f:Int -> Option Int) (y:Atom),y ∈ l -> ∃ v,l.foldl upd f y.var = some v /\ y.add <= v
 | x :: l,f,y,h=>by
  rcases List.mem_cons.1 h with rfl | h
  ·obtain ⟨v,h1,h2⟩:=pn' (k:=y.var) l (upd f y) _ (jh' f y)
   refine ⟨v,h1,?_⟩;cases hf:f y.var with
   | none=>rw [hf] at h2; exact h2
   | some u =>
    rw [hf] at h2;simp only at h2;split at h2 <;> omega
  ·exact mJ' l (upd f x) y h
theorem kv' {l:List Atom} {k v:Int} (h:hA' l k = some v):∃ y ∈ l,y.var = k /\ y.add = v:=by
 rcases fold_from l _ h with h | h
 ·cases h
 ·exact h
theorem ru' {l:List Atom} {y:Atom} (h:y ∈ l):∃ v,hA' l y.var = some v /\ y.add <= v:=mJ' l _ y h
theorem ig' {vars:Int}:∀ {l:List Atom} {last:Int},dl' vars l last = true -> (∀ x ∈ l,last < x.var) /\ l.Pairwise (fun x y=>x.var < y.var)
 | [],_,_=>⟨by simp,List.Pairwise.nil⟩
 | x :: l,last,h=>by
  simp only [dl'] at h;split at h
  ·cases h
  rename_i h0;obtain ⟨h1,h2⟩:=ig' h;refine ⟨fun y hy=>?_,List.pairwise_cons.2 ⟨fun y hy=>h1 y hy,h2⟩⟩;rcases List.mem_cons.1 hy with rfl | hy
  ·omega
  ·have:=h1 y hy
   omega
theorem mK' {l:List Atom} {vars:Int} (h:aP' l vars = true):l.Pairwise (fun x y=>x.var < y.var) /\ 1 <= l.length:=by
 unfold aP' at h;split at h
 ·cases h
 ·exact ⟨(ig' h).2,by omega⟩
def eb' (f:Int -> Option Int) (r:List Nat):List Int:=(r.filter fun (v:Nat)=>(f v).isSome).map fun (v:Nat)=>(v:Int)
def maxL (a b:List Atom):List Atom:=(List.range 17).filterMap fun (v:Nat)=>(hA' (a ++ b) v).map fun n=>⟨(v:Int),n⟩
theorem gC' (f:Int -> Option Int):∀ r:List Nat,(r.filterMap fun (v:Nat)=>(f v).map fun n=>(⟨(v:Int),n⟩:Atom)).map Atom.var = eb' f r
 | []=>rfl
 | v :: r=>by
  have ih:=gC' f r;unfold eb' at ih ⊢;rw [List.filterMap_cons];cases h:f v with
  | none=>simp [h]; simpa using ih
  | some n=>simp [h]; simpa using ih
def mL' (a b:List Atom):Int:=if aP' a 16 = false \/ aP' b 16 = false then 19 else if 4 < (maxL a b).length then 5 else 0
def nO' (a b:List Atom):List Atom:=if mL' a b = 0 then maxL a b else []
theorem ji' (f:Int -> Option Int) (n:Nat):(eb' f (List.range n)).Pairwise (· < ·):=by
 unfold eb';refine List.pairwise_map.2 (List.Pairwise.imp (R:=(· < ·)) (fun h=>by omega) ((List.pairwise_lt_range (n:=n)).filter _))
theorem po' {f:Int -> Option Int} {n:Nat} (hf:∀ x v,f x = some v -> 0 <= x /\ x < n) (x:Int):x ∈ eb' f (List.range n) ↔ (f x).isSome = true:=by
 unfold eb';simp only [List.mem_map,List.mem_filter,List.mem_range];constructor
 ·rintro ⟨v,⟨h1,h2⟩,rfl⟩
  exact h2
 ·intro h
  obtain ⟨v,hv⟩:=Option.isSome_iff_exists.1 h;have:=hf x v hv;exact ⟨x.toNat,⟨by omega,by rw [Int.toNat_of_nonneg this.1]; exact h⟩,Int.toNat_of_nonneg this.1⟩
theorem rv' {x:Int} (h:I64 x):(Lit.int .i64 x).wf = true:=by
 unfold I64 at h;simp [Lit.wf,IntKind.min,IntKind.max,IntKind.signed,IntKind.bits];omega
def MV (w:World) (b:Nat) (f:Int -> Option Int) (n:Nat):Prop:=∃ D:DataW Unit,w.ownsMap Tryz.prog 3 (plainElem Tryz.prog 3) b n D /\
 ∀ x,I64 x -> Maps.has D (.int .i64 x) = (f x).isSome /\ D.atKey (.int .i64 x) (.lit (.int .i64 0)) = .lit (.int .i64 ((f x).getD 0))
theorem MV.kp {w w':World} {b n:Nat} {f:Int -> Option Int} {X:List Nat} (h:MV w b f n) (k:Kp X w w') (hb:b ∉ X):MV w' b f n:=by
 obtain ⟨D,h1,h2⟩:=h;have hl:=h1.lt;obtain ⟨es,clock,hb',Ft,hs,hD⟩:=h1;exact ⟨D,⟨es,clock,by rw [k.block b hl hb]; exact hb',Ft,hs,hD⟩,h2⟩
theorem MV.lt {w:World} {b n:Nat} {f:Int -> Option Int} (h:MV w b f n):b < w.heap.size:=by
 obtain ⟨D,h1,_⟩:=h;exact h1.lt
theorem MV.made {w:World} {k:Value -> World -> Prop} (hk:∀ b w',b = w.heap.size -> MV w' b (fun _=>none) 0 -> w'.heap.size = b + 1 -> Kp [] w w' -> k (.map (some b)) w'):EvRun Tryz.prog (Instr.makeMap 218 none) w k:=by
 refine run (show (Instr.makeMap 218 none).run Tryz.prog w = .ok (.map (some w.heap.size)) (w.alloc (.map #[] 0)) from rfl) (hk _ _ rfl ⟨.map [],World.ownsMap_made w _ _ _,fun x _=>⟨rfl,rfl⟩⟩ (by simp) (Kp.alloc _ _))
theorem MV.look {w:World} {b n:Nat} {f:Int -> Option Int} (h:MV w b f n) {x:Int} (hx:I64 x) {k:Value -> World -> Prop} (hk:k (.tuple #[.int .i64 ((f x).getD 0),.bool (f x).isSome]) w):EvRun Tryz.prog (Instr.lookup 218 (.map (some b)) (.int .i64 x) true) w k:=by
 obtain ⟨D,h1,h2⟩:=h;obtain ⟨v,ps,hr,hv⟩:=h1.look_ok (Maps.int_keyed Tryz.underlying3) Tryz.underlying218 (Tryz.zeroValue3 w) (plainElem_int Tryz.underlying3 (by decide)) (Maps.keyOf_int_mk Tryz.underlying3 (rv' hx));obtain ⟨c,rfl,hc,_⟩:=plainElem_int_inv Tryz.underlying3 hv;obtain ⟨e1,e2⟩:=h2 x hx;rw [e2] at hc;simp at hc;rw [e1] at hr;rw [<- hc.1] at hr;exact run hr hk
theorem MV.look1 {w:World} {b n:Nat} {f:Int -> Option Int} (h:MV w b f n) {x:Int} (hx:I64 x) {k:Value -> World -> Prop} (hk:k (.int .i64 ((f x).getD 0)) w):EvRun Tryz.prog (Instr.lookup 218 (.map (some b)) (.int .i64 x) false) w k:=by
 obtain ⟨D,h1,h2⟩:=h;obtain ⟨c,hr,hc,_⟩:=h1.lookup_int (Maps.int_keyed Tryz.underlying3) Tryz.underlying218 Tryz.underlying3 (Tryz.zeroValue3 w) (Maps.keyOf_int_mk Tryz.underlying3 (rv' hx));rw [(h2 x hx).2] at hc;simp at hc;rw [<- hc] at hr;exact run hr hk
theorem MV.put {w:World} {b n:Nat} {f:Int -> Option Int} (h:MV w b f n) (hn:n < 1000000) {x v:Int} (hx:I64 x) (hv:I64 v) {k:World -> Prop} (hk:∀ w',MV w' b (pm' f x v) (n + 1) -> Kp [b] w w' -> k w'):EvRunU Tryz.prog (Instr.mapUpdate 218 (.map (some b)) (.int .i64 x) (.int .i64 v)) w k:=by
 obtain ⟨D,h1,h2⟩:=h;obtain ⟨w',hr,h3,hg⟩:=h1.update (Maps.int_keyed Tryz.underlying3) Tryz.underlying218 (by unfold maxLen; omega) (Maps.keyOf_int_mk Tryz.underlying3 (rv' hx)) (plainElem_int Tryz.underlying3 (rv' hv));refine ug' hr (hk w' ⟨_,h3,fun y hy=>?_⟩ (by simpa using fY' hg))
 by_cases e:y = x
 ·subst e
  rw [Maps.has_put_same h1.isMap (by trivial),Maps.atKey_put_same h1.isMap (by trivial)];simp [pm']
 ·have hne:(Lit.int .i64 y) ≠ .int .i64 x:=by simpa using e
  rw [Maps.has_put_other hne,Maps.atKey_put_other hne];simp only [pm',if_neg e];exact h2 y hy
theorem MV.keys {w:World} {b n:Nat} {f:Int -> Option Int} {m:Nat} (h:MV w b f n) (hm:m <= 1000) (hf:∀ x v,f x = some v -> 0 <= x /\ x < m) :
  ∃ D:DataW Unit,w.ownsMap Tryz.prog 3 (plainElem Tryz.prog 3) b n D /\ (eb' f (List.range m)).Perm (intKeys D) /\ Maps.size D = (eb' f (List.range m)).length:=by
 obtain ⟨D,h1,h2⟩:=h;obtain ⟨es,hD,hpw,_⟩:=h1.entries (Maps.int_keyed Tryz.underlying3);obtain ⟨es',hD',hko⟩:=h1.keysOf;obtain rfl:es = es':=by rw [hD] at hD'; simpa using hD'
 have hnd:(eb' f (List.range m)).Nodup:=(ji' f m).imp (fun h=>by omega);have hp:(eb' f (List.range m)).Perm (intKeys D):=by
  rw [hD];refine perm_intKeys hpw (fun p hp=>?_) hnd fun x=>?_
  ·obtain ⟨v,hv⟩:=hko p hp
   obtain ⟨x,_,hx,_⟩:=Maps.keyOf_i64 Tryz.underlying3 hv;exact ⟨x,hx⟩
  ·rw [po' hf x,<- hD]
   by_cases hx:I64 x
   ·rw [(h2 x hx).1]
   ·constructor
    ·intro hs
     obtain ⟨v,hv⟩:=Option.isSome_iff_exists.1 hs;have:=hf x v hv;exact absurd (by unfold I64; omega) hx
    ·intro hs
     exfalso;rw [hD,Maps.has_eq,List.any_eq_true] at hs;obtain ⟨p,hp,hs⟩:=hs;obtain ⟨v,hv⟩:=hko p hp;obtain ⟨y,_,hy,hw⟩:=Maps.keyOf_i64 Tryz.underlying3 hv;rw [hy] at hs;have:y = x:=by simpa [Lit.sameKey] using hs
     subst this;apply hx;unfold I64;simp [Lit.wf,IntKind.min,IntKind.max,IntKind.signed,IntKind.bits] at hw;omega
 refine ⟨D,h1,hp,?_⟩;rw [hp.length_eq,hD];simp [Maps.size_eq,intKeys]
theorem pp' {f:Int -> Option Int} {m:Nat} {ss:List Int} (h:ss.Perm (eb' f (List.range m))):ss.mergeSort (fun x y=>decide (x <= y)) = eb' f (List.range m):=by
 have e:=mergeSort_of_perm_i h;unfold leI at e;rw [e];refine List.mergeSort_of_pairwise (List.Pairwise.imp (fun h=>by simp; omega) (ji' f m))
def rAt:Rd Atom where
 sz:=2
 den _ cs x:=cs = [.int .i64 x.var,.int .i64 x.add] /\ I64 x.var /\ I64 x.add
 len:=by rintro _ cs x ⟨rfl,_⟩; rfl
 mono:=by rintro _ _ cs x _ h; exact h
 one:=by rintro _ cs x ⟨rfl,_⟩ u hu; simp at hu; rcases hu with rfl | rfl <;> rfl
theorem rw' {C:Mem} {a:Option Addr} {l:List Atom} (h:Sl rAt C a l) {i:Nat} {x:Atom} (hi:l[i]? = some x):∃ b o,a = some ⟨b,o,none⟩ /\ C b (o + i * 2) (.int .i64 x.var) /\ C b (o + i * 2 + 1) (.int .i64 x.add) /\ I64 x.var /\ I64 x.add:=by
 obtain ⟨b,o,ha,hc⟩:=h.at (ai' hi)
 obtain ⟨cs,⟨rfl,h1,h2⟩,h5⟩:=hc i x hi;exact ⟨b,o,ha,h5 0 _ rfl,h5 1 _ rfl,h1,h2⟩
theorem Sl.atoms {C:Mem} {w:World} {a:Option Addr} {l:List Atom} (h:Sl rAt C a l) (hS:Sub C w):Atoms w.heap.size w.heap a l:=by
 refine ⟨?_,fun x hx=>?_⟩
 ·rcases h.2 with h0 | ⟨b,o,ha,hc⟩
  ·exact .inl h0
  ·rcases Nat.eq_zero_or_pos l.length with h0 | h0
   ·exact .inl h0
   have key:∀ i j,i < l.length -> j < 2 -> Cl w.heap b (o + i * 2 + j) (.int .i64 (if j = 0 then (l.getD i default).var else (l.getD i default).add)):=fun i j hi hj=>by
    obtain ⟨cs,⟨rfl,_⟩,h5⟩:=hc i l[i] (by simp);have e:l.getD i default = l[i]:=by simp [hi]
    rw [e]
    match j,hj with
    | 0,_=>exact hS _ _ _ (h5 0 _ rfl)
    | 1,_=>exact hS _ _ _ (h5 1 _ rfl)
   exact .inr ⟨b,o,ha,(key 0 0 h0 (by omega)).lt,key⟩
 ·obtain ⟨i,hi⟩:=List.getElem?_of_mem hx
  obtain ⟨_,_,_,_,_,h1,h2⟩:=rw' h hi;exact ⟨h1,h2⟩
theorem sq':∀ (C C':Mem) (cs:List Value) (x:Atom),rAt.den C cs x -> rAt.den C' cs x:=fun _ _ _ _ h=>h
end Go.Proofs.YtmpgcpemnjbgjaaGreat
