import Derived.Test.YtdfmgkaecdkhnaaGreatMt21
set_option linter.unusedVariables false
set_option linter.unusedSimpArgs false
set_option maxRecDepth 100000
set_option maxHeartbeats 4000000
namespace Go.Proofs.YtdfmgkaecdkhnaaGreat
open Go.Wx Cd Tm Lv
def nS' {α:Type} (p:α -> Bool):List α -> Int -> Int
 | [],_=>-1
 | x :: r,i=>if p x then i else nS' p r (i + 1)
theorem mE' {α:Type} (p:α -> Bool):∀ (l:List α) (i:Int),0 <= i -> (decide (0 <= nS' p l i) = l.any p)
 | [],i,_=>by simp [nS']
 | x :: r,i,h=>by
  simp only [nS',List.any_cons]
  by_cases hp:p x = true
  ·simp [hp,h]
  ·simp [hp,mE' p r (i + 1) (by omega)]
section
variable {C:Mem} {w:World}
theorem qK' (hS:Sub C w) (l:List Nd) (a:Option Addr) (cap:Nat) (f:FuncId) (captured:Array Value) (p:Nd -> Bool) (hl:Sl rNd C a l)
  (hf:∀ x ∈ l,∀ w',Kp [] w w' -> ∀ v:Value,v = .agg #[iV x.op,iV x.a,iV x.b] -> ch' Tryz.prog f /\ Calls Tryz.prog f (#[] ++ [v].toArray ++ captured) w' (fun e w2=>e = .returned (.bool (p x)) /\ Kp [] w' w2)) :
  CC 63 #[.slice a l.length cap,.func (.func f) #[] captured] w (fun e w'=>e = .returned (iV (nS' p l 0)) /\ Kp [] w w'):=by
 refine oF Tryz.func63 ?_;have hlen:=hl.1;refine cO (args:=[_,_]) 19 [.tmp 4] τok Tryz.func63 ?_;refine loop τok (σ:=Nat) (fun k=>[(0,.slice a l.length cap),(1,.func (.func f) #[] captured),(7,iV l.length),(8,iV k)])
  (fun k w'=>k <= l.length /\ nS' p l 0 = nS' p (l.drop k) k /\ Kp [] w w') (fun k=>l.length - k) 0 ⟨rfl,rfl,rfl,rfl,trivial⟩ ⟨KV _,rfl,Kp.refl _ _⟩ ?_
 rintro k w1 ⟨hk,hr,hkp⟩;refine ac' (fun h5=>?_) (fun h5=>?_)
 ·have hlt:k < l.length:=by omega
  obtain ⟨x,hx,hd⟩:=af' hlt;rw [hd] at hr;obtain ⟨b,o,rfl,_,_,_,hc⟩:=gr' hl hx;refine ix k rfl hlt ?_;refine ldN [iV x.op,iV x.a,iV x.b] rfl (fun j v hj=>hS.tr hkp _ _ _ (hc j v hj)) ?_;refine ab' (hf x (JQ hx) w1 hkp _ rfl) ?_;rintro e w2 ⟨rfl,hk2⟩;refine br (fun c=>?_) (fun c=>?_)
  ·exact ⟨by rw [hr]; simp only [nS']; rw [if_pos c]; rfl,hkp.tr hk2⟩
  ·refine i6 ?_
   refine ⟨k + 1,by omega,rfl,⟨rfl,rfl,rfl,rfl,trivial⟩,hlt,?_,hkp.tr hk2⟩;rw [hr]; simp only [nS']; rw [if_neg (by simp [c])]; rfl
 ·refine ⟨?_,hkp⟩
  rw [hr,JY (by omega)]
  rfl
theorem lC' (hS:Sub C w) (l:List Nd) (a:Option Addr) (cap:Nat) (f:FuncId) (captured:Array Value) (p:Nd -> Bool) (hl:Sl rNd C a l)
  (hf:∀ x ∈ l,∀ w',Kp [] w w' -> ∀ v:Value,v = .agg #[iV x.op,iV x.a,iV x.b] -> ch' Tryz.prog f /\ Calls Tryz.prog f (#[] ++ [v].toArray ++ captured) w' (fun e w2=>e = .returned (.bool (p x)) /\ Kp [] w' w2)) :
  CC 38 #[.slice a l.length cap,.func (.func f) #[] captured] w (fun e w'=>e = .returned (.bool (l.any p)) /\ Kp [] w w'):=by
 refine oF Tryz.func38 ?_;refine cO (args:=[_,_]) 9 [.tmp 4] τok Tryz.func38 ?_;refine ab' (qK' hS l a cap f captured p hl hf) ?_;rintro e w1 ⟨rfl,hk1⟩;exact ⟨by rw [<- mE' p l 0 (by omega)]; rfl,hk1⟩
theorem qL' (hS:Sub C w) (l:List (List Nd)) (a:Option Addr) (cap:Nat) (f:FuncId) (captured:Array Value) (p:(List Nd) -> Bool) (hl:Sl (rSk rNd) C a l)
  (hf:∀ x ∈ l,∀ w',Kp [] w w' -> ∀ v:Value,SV rNd C x v -> ch' Tryz.prog f /\ Calls Tryz.prog f (#[] ++ [v].toArray ++ captured) w' (fun e w2=>e = .returned (.bool (p x)) /\ Kp [] w' w2)) :
  CC 37 #[.slice a l.length cap,.func (.func f) #[] captured] w (fun e w'=>e = .returned (iV (nS' p l 0)) /\ Kp [] w w'):=by
 refine oF Tryz.func37 ?_;have hlen:=hl.1;refine cO (args:=[_,_]) 19 [.tmp 4] τok Tryz.func37 ?_;refine loop τok (σ:=Nat) (fun k=>[(0,.slice a l.length cap),(1,.func (.func f) #[] captured),(7,iV l.length),(8,iV k)])
  (fun k w'=>k <= l.length /\ nS' p l 0 = nS' p (l.drop k) k /\ Kp [] w w') (fun k=>l.length - k) 0 ⟨rfl,rfl,rfl,rfl,trivial⟩ ⟨KV _,rfl,Kp.refl _ _⟩ ?_
 rintro k w1 ⟨hk,hr,hkp⟩;refine ac' (fun h5=>?_) (fun h5=>?_)
 ·have hlt:k < l.length:=by omega
  obtain ⟨x,hx,hd⟩:=af' hlt;rw [hd] at hr;obtain ⟨b,o,rfl,hc⟩:=hl.at (ak' hx)
  obtain ⟨v,hv,hsv⟩:=vT' (hc k x hx);obtain ⟨_,_,rfl,_,_⟩:=id hsv;refine ix k rfl hlt ?_;refine ld (Cl.cell (hS.tr hkp _ _ _ hv)) ?_;refine ab' (hf x (JQ hx) w1 hkp _ hsv) ?_;rintro e w2 ⟨rfl,hk2⟩;refine br (fun c=>?_) (fun c=>?_)
  ·exact ⟨by rw [hr]; simp only [nS']; rw [if_pos c]; rfl,hkp.tr hk2⟩
  ·refine i6 ?_
   refine ⟨k + 1,by omega,rfl,⟨rfl,rfl,rfl,rfl,trivial⟩,hlt,?_,hkp.tr hk2⟩;rw [hr]; simp only [nS']; rw [if_neg (by simp [c])]; rfl
 ·refine ⟨?_,hkp⟩
  rw [hr,JY (by omega)]
  rfl
theorem lD' (hS:Sub C w) (l:List (List Nd)) (a:Option Addr) (cap:Nat) (f:FuncId) (captured:Array Value) (p:(List Nd) -> Bool) (hl:Sl (rSk rNd) C a l)
  (hf:∀ x ∈ l,∀ w',Kp [] w w' -> ∀ v:Value,SV rNd C x v -> ch' Tryz.prog f /\ Calls Tryz.prog f (#[] ++ [v].toArray ++ captured) w' (fun e w2=>e = .returned (.bool (p x)) /\ Kp [] w' w2)) :
  CC 20 #[.slice a l.length cap,.func (.func f) #[] captured] w (fun e w'=>e = .returned (.bool (l.any p)) /\ Kp [] w w'):=by
 refine oF Tryz.func20 ?_;refine cO (args:=[_,_]) 9 [.tmp 4] τok Tryz.func20 ?_;refine ab' (qL' hS l a cap f captured p hl hf) ?_;rintro e w1 ⟨rfl,hk1⟩;exact ⟨by rw [<- mE' p l 0 (by omega)]; rfl,hk1⟩
theorem qM' (m:Nd) (e:Int) (w:World) {be T:Nat} (he:Bk w.heap be [iV e] T) :
  CC 39 #[.agg #[iV m.op,iV m.a,iV m.b],pt be] w (fun r w'=>r = .returned (.bool (decide (m.op = 9 /\ m.a = e))) /\ Kp [] w w'):=by
 refine oF Tryz.func39 ?_;refine cO (args:=[_,_]) 13 [.tmp 3] τok Tryz.func39 ?_;refine new fun b2 w1 hb2 h2 hs2 hk1=>?_;have h2:Bk w1.heap b2 [iV m.op,iV m.a,iV m.b] 45:=h2;have he1:=he.kp hk1 (by simp);refine lb h2 ?_;refine ac' (fun g=>?_) (fun g=>?_)
 ·refine lb h2 ?_
  refine lb he1 ?_;refine ⟨?_,hk1⟩;have g:m.op = 9:=g;simp [g]
  rfl
 ·refine ⟨?_,hk1⟩
  have g:¬ m.op = 9:=g;simp [g]
  rfl
theorem ey' (hS:Sub C w) {l:List Nd} {v:Value} (hv:SV rNd C l v) (e:Int) :
  CC 22 #[v,iV e] w (fun r w'=>r = .returned (.bool (cR' l e)) /\ Kp [] w w'):=by
 refine oF Tryz.func22 ?_;obtain ⟨a,c,rfl,h2,_⟩:=hv;refine cO (args:=[_,_]) 8 [.tmp 4] τok Tryz.func22 ?_;refine new fun b3 w1 hb3 h3 hs1 hk1=>?_;have h3:Bk w1.heap b3 [iV e] 3:=h3;refine ab' (lC' (hS.tr hk1) l a c 39 #[pt b3] (fun m=>decide (m.op = 9 /\ m.a = e)) h2 fun x _ w' k v hv=>by subst hv; exact qM' x e w' (h3.kp k (by simp))) ?_;rintro r w2 ⟨rfl,hk2⟩;exact ⟨rfl,hk1.tr hk2⟩
theorem eP' {B:BoT} {e:Int} {v2:Value} (hE:SV rEn C B.ents v2) (h0:0 <= e) (h1:e < B.ents.length) :
  ∃ be oe ce,v2 = .slice (some ⟨be,oe,none⟩) B.ents.length ce /\ ∃ u1 u2 u3 u4 u5 u6,(∀ j v,[iV (entD B e).kind,u1,u2,u3,u4,u5,u6][j]? = some v -> C be (oe + e.toNat * 7 + j) v) /\ SV rNd C (entD B e).sort u1 /\ SV (rSk rNd) C (entD B e).params u2 /\ SV (rSk rNd) C (entD B e).indices u3 /\ SV rCt C (entD B e).ctors u4 /\ SV rNd C (entD B e).type u5 /\ SV rNd C (entD B e).body u6:=by
 obtain ⟨x,hx,_⟩:=af' (l:=B.ents) (k:=e.toNat) (by omega);have hD:entD B e = x:=by
  unfold entD;rw [List.getD_eq_getElem?_getD,hx]
  rfl
 rw [hD];obtain ⟨be,oe,ce,rfl,hat⟩:=hE.at hx;obtain ⟨u1,u2,u3,u4,u5,u6,h1,_,h2⟩:=eB' hat;exact ⟨be,oe,ce,rfl,u1,u2,u3,u4,u5,u6,h1,h2⟩
theorem gJ' {B:BoT} {e:Int} {u1 u2 u3 u4 u5 u6:Value} (h1:SV rNd C (entD B e).sort u1) (h2:SV (rSk rNd) C (entD B e).params u2) (h3:SV (rSk rNd) C (entD B e).indices u3) (h4:SV rCt C (entD B e).ctors u4) (h5:SV rNd C (entD B e).type u5) (h6:SV rNd C (entD B e).body u6) :
  ∀ v ∈ [iV (entD B e).kind,u1,u2,u3,u4,u5,u6],v.oneCell' = true:=fun v hv=>by
 simp at hv;rcases hv with rfl | rfl | rfl | rfl | rfl | rfl | rfl
 ·rfl
 ·exact h1.one
 ·exact h2.one
 ·exact h3.one
 ·exact h4.one
 ·exact h5.one
 ·exact h6.one
theorem uN' {x:Tr} (hx:Ok .tm x) (h:x.n.op = 4 \/ x.n.op = 5):Ok .tm (kidD x 1):=by
 obtain ⟨_,_,hk,_⟩:=dz' hx h;have hk1:(kidsT x)[1]? = some (kidD x 1):=by rw [hk]; rfl
 obtain ⟨hkk,hkl⟩:=bw' hx (by omega) (by omega);rw [hkk] at hk1;obtain ⟨n,ks⟩:=x;obtain ⟨hc,hok,hi⟩:=hx.kids;simp only [Tr.ks] at hk1;have:=fK' ks 0 1 _ hok hk1;rw [show nx Md.tm n (0 + 1) = .tm by rcases h with h | h <;> simp only [Tr.n] at h <;> simp [nx,h]] at this;exact ⟨this,en' ks 1 _ hi hk1⟩
theorem sP' {np ni:Nat} {e ar:Int} {g:Nat} {x:Tr} (h:x.n.op = 4):lB' np ni e (g + 1) x ar = if cR' (row (kidD x 0)) e = true then false else lB' np ni e g (kidD x 1) (ar + 1):=by
 simp only [lB'];rw [if_pos h]
theorem qN' {np ni:Nat} {e ar:Int} {g:Nat} {x:Tr} (h:¬ x.n.op = 4):lB' np ni e (g + 1) x ar = mC' np ni e ar x:=by
 simp only [lB'];rw [if_neg h]
theorem qO' (hS:Sub C w) (hold:∀ b o v,C b o v -> b < w.heap.size) {B:BoT} {vb:Value} (hvb:BoV C B vb) {e:Int} (he:0 <= e /\ e < B.ents.length /\ B.ents.length <= 64) {x:Tr} (hx:Ok .tm x) (hl:(row x).length <= 4096) {v:Value} (hv:TmV C x v) {ar:Int} (har:0 <= ar /\ ar <= 1000)
  (hnp:(entD B e).params.length <= 16 /\ (entD B e).indices.length <= 16) :
  CC 19 #[vb,iV e,v,iV ar] w (fun r w'=>r = .returned (.bool (iA' (entD B e).params.length (entD B e).indices.length e x ar)) /\ Kp [] w w'):=by
 refine oF Tryz.func19 ?_;obtain ⟨RES,hRES⟩:∃ r,iA' (entD B e).params.length (entD B e).indices.length e x ar = r:=⟨_,rfl⟩
 rw [hRES];unfold iA' at hRES;obtain ⟨np,hnpe⟩:∃ n,(entD B e).params.length = n:=⟨_,rfl⟩
 obtain ⟨ni,hnie⟩:∃ n,(entD B e).indices.length = n:=⟨_,rfl⟩
 obtain ⟨v1,v2,v3,rfl,hO,hE,hP⟩:=hvb;obtain ⟨be,oe,ce,rfl,u1,u2,u3,u4,u5,u6,hcs,s1,s2,s3,s4,s5,s6⟩:=eP' hE he.1 he.2.1;have hone:=gJ' s1 s2 s3 s4 s5 s6;obtain ⟨a2,c2,rfl,_,_⟩:=s2;obtain ⟨a3,c3,rfl,_,_⟩:=s3;have hvv:=hv;obtain ⟨av,cv,rfl,hv1,hv2⟩:=hv;refine cO (args:=[_,_,_,_]) 98 [.tmp 8] τok Tryz.func19 ?_;refine new fun b4 w1 hb4 h4 hs1 hk1=>?_;have h4:Bk w1.heap b4 [iV B.vars,v1,.slice (some ⟨be,oe,none⟩) B.ents.length ce,iV B.nat,v3] 26:=h4;refine ab' (ey' (hS.tr hk1) (TmV.sv.1 hvv) e) ?_;rintro r w2 ⟨rfl,hk2⟩;have k02:=hk1.tr hk2;cases hnm:cR' (row x) e with
 | false =>
  rw [if_pos hnm] at hRES;subst hRES;exact ⟨rfl,k02⟩
 | true =>
 rw [if_neg (by simp [hnm])] at hRES;refine lb (h4.kp hk2 (by simp)) ?_;refine ix e.toNat (by omega) (by omega) ?_;refine ldN [iV (entD B e).kind,u1,.slice a2 (entD B e).params.length c2,.slice a3 (entD B e).indices.length c3,u4,u5,u6] rfl (fun j v hj=>hS.tr k02 _ _ _ (hcs j v hj)) ?_;refine new fun b9 w3 hb9 h9 hs3 hk3=>?_;refine stN (vs:=[iV (entD B e).kind,u1,.slice a2 (entD B e).params.length c2,.slice a3 (entD B e).indices.length c3,u4,u5,u6]) h9 rfl hone fun w4 h9 hs4 hk4=>?_;have k24:=hk3.newSt hb9 hk4;have k04:=k02.tr k24;rw [hnpe,hnie] at h9 hRES;refine loop τok (σ:=Tr × Int × Value) (fun q=>[(1,iV e),(2,q.2.2),(3,iV q.2.1),(9,pt b9)])
  (fun q w'=>Ok .tm q.1 /\ TmV C q.1 q.2.2 /\ 0 <= q.2.1 /\ q.2.1 + (row q.1).length <= 1000 + 4096 /\ (row q.1).length <= 4096 /\ (∃ g,(row q.1).length <= g /\ RES = lB' np ni e g q.1 q.2.1) /\ Kp [] w4 w') (fun q=>(row q.1).length) (x,ar,.slice av (row x).length cv) ⟨rfl,rfl,rfl,rfl,trivial⟩
  ⟨hx,hvv,har.1,by simp only; omega,hl,⟨_,KJ _,hRES.symm⟩,Kp.refl _ _⟩ ?_
 rintro ⟨y,ay,vy⟩ w5 ⟨hy,hvy,ha0,ha1,hyl,⟨g,hg,hr⟩,k45⟩;simp only at hy hvy ha0 ha1 hyl hg hr;have hyp:=ag' y;obtain ⟨g,rfl⟩:∃ g',g = g' + 1:=⟨g - 1,by omega⟩
 have k05:=k04.tr k45;have hvy':=hvy;obtain ⟨b,o,c,rfl,_,_,_,hch⟩:=hvy.hd;refine ix 0 rfl hyp ?_;refine ld (Cl.cell (hS.tr k05 _ _ _ (by have:=hch 0 _ rfl; simpa using this))) ?_;refine ac' (fun c4=>?_) (fun c4=>?_)
 ·have c4:y.n.op = 4:=c4
  rw [sP' c4] at hr;obtain ⟨r1,r2,r3,hok0⟩:=dz' hy (.inl c4);have hok1:Ok .tm (kidD y 1):=uN' hy (.inl c4);have hlen:(row y).length = 1 + (row (kidD y 0)).length + (row (kidD y 1)).length:=by rw [r2]; simp; omega
  refine ab' (cK' (hS.tr k05) hvy' hyl r1 hok0 (i:=1) rfl) ?_;rintro r w6 ⟨rfl,hk6⟩;have k06:=k05.tr hk6;obtain ⟨a7,c7,z7,hle7,hc7,v7,hs7,hT7⟩:=hvy'.cut r1;injection z7 with z1 _ z2
  subst z1 z2;refine vx' τok rfl 1 (1 + (row (kidD y 0)).length) rfl (by simp) (by omega) (by simp at hle7; omega) ?_;have hs7:sliced (some ⟨b,o,none⟩) 1 (1 + (row (kidD y 0)).length) c 3 = v7:=hs7;rw [hs7];refine ab' (ey' (hS.tr k06) (TmV.sv.1 hT7) e) ?_;rintro r w7 ⟨rfl,hk7⟩;have k07:=k06.tr hk7;cases hn0:cR' (row (kidD y 0)) e with
  | true =>
   rw [if_pos hn0] at hr;subst hr;exact ⟨rfl,k07⟩
  | false =>
   rw [if_neg (by simp [hn0])] at hr;obtain ⟨a8,c8,z8,hle8,v8,hs8,hT8⟩:=hvy'.cutT r2;injection z8 with z1 _ z2
   subst z1 z2;refine slcL τok rfl (1 + (row (kidD y 0)).length) (by simp) (by omega) ?_;have hs8:sliced (some ⟨b,o,none⟩) (1 + (row (kidD y 0)).length) (row y).length c 3 = v8:=by
    rw [<- hs8];simp [Nat.add_comm]
   rw [hs8];refine i6 ?_;obtain ⟨_,_,rfl,_,_⟩:=id hT8;exact ⟨(kidD y 1,ay + 1,_),by simp only; omega,rfl,⟨rfl,rfl,rfl,rfl,trivial⟩,hok1,hT8,by simp only; omega,by simp only; omega,by simp only; omega,⟨g,by simp only; omega,hr⟩,(k45.tr hk6).tr hk7⟩
 have c4:¬ y.n.op = 4:=c4;rw [qN' c4] at hr;unfold mC' at hr;obtain ⟨aa,cc,hvc,ht1,ht2⟩:=hvy';injection hvc with z1 _ z2
 subst z1 z2;refine ab' (kJ' (hS.tr k05) (Kp.hold k05 hold) y hy _ _ ht1 ht2 hyl) ?_;rintro r w6 ⟨⟨vh,va,rfl,hh,ha⟩,hk6⟩;have k06:=k05.tr hk6;have k46:=k45.tr hk6;have h96:=h9.kp k46 (by simp);have hTh:TmV (Cn C w5 w6) (headT y) vh:=hh.cn (KJ _);have hTa:TmsV (Cn C w5 w6) (argsT y) va:=ha.cn (KJ _);have hS6:Sub (Cn C w5 w6) w6:=Cn.sub (hS.tr k05) hk6;have hTh':=hTh;have hTa':=hTa;obtain ⟨bh,oh,ch,rfl,_,_,_,hhc⟩:=hTh.hd;obtain ⟨aa,ca,rfl,ha1,ha2⟩:=hTa;have hargs:=(dq' _ y (KJ _) hy).2.1;have nope:(row (headT y) ≠ [⟨9,e,0⟩] \/ (argsT y).length ≠ np + ni) -> RES = false:=fun h=>by rw [hr,if_pos h]
 refine ac' (fun g1=>?_) (fun g1=>?_)
 ·refine ⟨?_,k06⟩
  rw [nope (.inl fun h=>by rw [h] at g1; exact g1 rfl)]
  rfl
 have g1:(row (headT y)).length = 1:=by
  have:¬ ((row (headT y)).length:Int) ≠ 1:=g1;omega
 have hrow1:row (headT y) = [(headT y).n]:=by
  cases hh:headT y with
  | mk n ks =>
   rw [hh] at g1;simp only [row,Tr.n,JV] at g1 ⊢;have:(rows ks).length = 0:=by omega
   rw [List.length_eq_zero_iff.1 this]
 refine ix 0 rfl (by omega) ?_;refine ldN [iV (headT y).n.op,iV (headT y).n.a,iV (headT y).n.b] rfl (fun j v hj=>hS6 _ _ _ (by have:=hhc j v hj; simpa using this)) ?_;refine run (hR' _ _ (headT y).n ⟨9,e,0⟩ w6) ?_;refine br (fun g2=>?_) (fun g2=>?_)
 ·refine ⟨?_,k06⟩
  rw [nope (.inl fun h=>by
   rw [hrow1] at h;injection h with h
   rw [h] at g2;simp at g2)]
  rfl
 have g2:(headT y).n = ⟨9,e,0⟩:=by simpa using g2
 refine lb h96 ?_;refine lb h96 ?_;refine i6 ?_;refine ac' (fun g3=>?_) (fun g3=>?_)
 ·refine ⟨?_,k06⟩
  have g3:((argsT y).length:Int) ≠ (np:Int) + ni:=g3;rw [nope (.inr (by omega))]
  rfl
 have g3:(argsT y).length = np + ni:=by
  have:¬ ((argsT y).length:Int) ≠ (np:Int) + ni:=g3;omega
 rw [if_neg (by rw [hrow1,g2]; simp [g3])] at hr;refine loop τok (σ:=Nat) (fun i=>[(1,iV e),(3,iV ay),(9,pt b9),(69,.slice aa (argsT y).length ca),(70,iV ((argsT y).length:Int)),(71,iV (i:Int))])
  (fun i w'=>i <= (argsT y).length /\ RES = nR' e ay np ((argsT y).drop i) i /\ Kp [] w6 w') (fun i=>(argsT y).length - i) 0 ⟨rfl,rfl,rfl,rfl,rfl,rfl,trivial⟩ ⟨KV _,hr,Kp.refl _ _⟩ ?_
 rintro i w7 ⟨hi,hr7,k67⟩;refine ac' (fun c=>?_) (fun c=>?_)
 ·have hlt:i < (argsT y).length:=by
   have:(i:Int) < (argsT y).length:=c;omega
  obtain ⟨z,hz,hd⟩:=af' hlt;rw [hd] at hr7;simp only [nR'] at hr7;have k07:=k06.tr k67;have h97:=h96.kp k67 (by simp);obtain ⟨bz,oz,cz,e1,uz,hcz,hTz⟩:=hTa'.get hz;injection e1 with e1 _ e2
  subst e1 e2;obtain ⟨_,_,rfl,_,_⟩:=id hTz;have hS7:Sub (Cn C w5 w6) w7:=hS6.tr k67;have bad:((i < np /\ row z ≠ [⟨1,ay - 1 - (i:Int),0⟩]) \/ cR' (row z) e = true) -> RES = false:=fun h=>by rw [hr7,if_pos h]
  refine ix i rfl hlt ?_;refine ld (Cl.cell (hS7 _ _ _ hcz)) ?_;refine lb h97 ?_;refine ac' (fun g4=>?_) (fun g4=>?_)
  ·have g4:(i:Int) < np:=g4
   refine i6 ?_;refine i6 ?_;refine fill [iV 1,iV (ay - 1 - (i:Int)),iV 0] rfl ?_;refine new fun bn w8 hbn hN hs8 hk8=>?_;have hN:Bk w8.heap bn [iV 1,iV (ay - 1 - (i:Int)),iV 0] 45:=hN;have hT1:TmV (Im [] w8) (.mk ⟨1,ay - 1 - (i:Int),0⟩ []) (.slice (some ⟨bn,0,none⟩) 1 1):=tm1 (n:=⟨1,ay - 1 - (i:Int),0⟩) hN ⟨⟨by simp,by simp⟩,⟨by simp only; omega,by simp only; omega⟩,⟨by simp,by simp⟩⟩ fun o t ht=>⟨ht.cl,by simp⟩
   obtain ⟨_,_,q1,hsz,_⟩:=hTz;injection q1 with q1 _ q2
   subst q1 q2;obtain ⟨_,_,q1,hsn,_⟩:=hT1;injection q1 with q1 _ q2
   subst q1 q2;refine ab' (nw' (hS7.tr hk8) (Im.sub [] w8) (row z) (row (.mk ⟨1,ay - 1 - (i:Int),0⟩ [])) _ _ _ _ hsz hsn) ?_;rintro r w9 ⟨rfl,hk9⟩;refine eG' (fun g5=>?_) (fun g5=>?_)
   ·have k79:=hk8.tr hk9
    have hS9:=hS7.tr k79;refine ab' (ey' hS9 ⟨_,_,rfl,hsz,by assumption⟩ e) ?_;rintro r w10 ⟨rfl,hk10⟩;have k70:=k79.tr hk10;cases hnz:cR' (row z) e with
    | true =>
     refine ⟨?_,k07.tr k70⟩;rw [bad (.inr hnz)]
     rfl
    | false =>
     refine i6 ?_;refine ⟨i + 1,by omega,rfl,⟨rfl,rfl,rfl,rfl,rfl,rfl,trivial⟩,hlt,?_,k67.tr k70⟩;rw [hr7,if_neg];rintro (⟨_,h⟩ | h)
     ·exact h g5
     ·rw [hnz] at h; cases h
   ·refine ⟨?_,k07.tr (hk8.tr hk9)⟩
    rw [bad (.inl ⟨by omega,g5⟩)]
    rfl
  ·have g4:¬ (i:Int) < np:=g4
   refine ab' (ey' hS7 (TmV.sv.1 hTz) e) ?_;rintro r w10 ⟨rfl,hk10⟩;cases hnz:cR' (row z) e with
   | true =>
    refine ⟨?_,k07.tr hk10⟩;rw [bad (.inr hnz)]
    rfl
   | false =>
    refine i6 ?_;refine ⟨i + 1,by omega,rfl,⟨rfl,rfl,rfl,rfl,rfl,rfl,trivial⟩,hlt,?_,k67.tr hk10⟩;rw [hr7,if_neg];rintro (⟨h,_⟩ | h)
    ·omega
    ·rw [hnz] at h; cases h
 ·refine ⟨?_,k06.tr k67⟩
  have c:¬ (i:Int) < (argsT y).length:=c;rw [hr7,JY (by omega)]
  rfl
end
section
variable {C:Mem} {w:World} {B:BoT}
theorem qP' (hS:Sub C w) (hold:∀ b o v,C b o v -> b < w.heap.size) {vb:Value} (hvb:BoV C B vb) (e:Int) :
  CC 13 #[vb,iV e] w (fun r w'=>r = .returned (iV (az' B e)) /\ Kp [] w w'):=by
 refine oF Tryz.func13 ?_;obtain ⟨RES,hRES⟩:∃ r,az' B e = r:=⟨_,rfl⟩
 rw [hRES];unfold az' at hRES;have hvv:=hvb;obtain ⟨v1,v2,v3,rfl,hO,hE,hP⟩:=hvb;obtain ⟨ae,ce,rfl⟩:=hE.len;refine cO (args:=[_,_]) 29 [.tmp 4] τok Tryz.func13 ?_;refine new fun b2 w1 hb2 h2 hs1 hk1=>?_;have h2:Bk w1.heap b2 [iV B.vars,v1,.slice ae B.ents.length ce,iV B.nat,v3] 26:=h2;refine ldN [iV B.vars,v1,.slice ae B.ents.length ce,iV B.nat,v3] rfl (bZ h2) ?_;refine ab' (fv' (hS.tr hk1) (Kp.hold hk1 hold) hvv) ?_;rintro r w2 ⟨rfl,hk2⟩;have k02:=hk1.tr hk2;have h2:=h2.kp hk2 (by simp)
 by_cases g0:aM' B ≠ 0
 ·rw [if_pos g0] at hRES
  subst hRES;refine au' g0 ?_;exact ⟨rfl,k02⟩
 rw [if_neg g0] at hRES;refine bz' g0 ?_;refine ac' (fun g1=>?_) (fun g1=>?_)
 ·rw [if_pos g1] at hRES
  subst hRES;exact ⟨rfl,k02⟩
 rw [if_neg g1] at hRES;have g1:¬ e < 0:=g1;refine lb h2 ?_;refine ac' (fun g2=>?_) (fun g2=>?_)
 ·rw [if_pos g2] at hRES
  subst hRES;exact ⟨rfl,k02⟩
 rw [if_neg g2] at hRES;have g2:¬ (B.ents.length:Int) <= e:=g2;obtain ⟨be,oe,ce',e1,u1,u2,u3,u4,u5,u6,hcs,_⟩:=eP' (e:=e) hE (by omega) (by omega);injection e1 with e1 _ e2
 subst e1 e2;refine lb h2 ?_;refine ix e.toNat (by omega) (by omega) ?_;refine ld (Cl.cell (hS.tr k02 _ _ _ (hcs 0 _ rfl))) ?_;refine ac' (fun g3=>?_) (fun g3=>?_)
 ·rw [if_pos g3] at hRES
  subst hRES;exact ⟨rfl,k02⟩
 ·rw [if_neg g3] at hRES
  subst hRES;exact ⟨rfl,k02⟩
theorem uO' (hS:Sub C w) {l:List Nd} {v:Value} (hv:SV rNd C l v) {e:Int} {be T:Nat} (he:Bk w.heap be [iV e] T) :
  CC 21 #[v,pt be] w (fun r w'=>r = .returned (.bool (cR' l e)) /\ Kp [] w w'):=by
 refine oF Tryz.func21 ?_;obtain ⟨_,_,rfl,_,_⟩:=id hv;refine cO (args:=[_,_]) 7 [.tmp 3] τok Tryz.func21 ?_;refine lb he ?_;refine ab' (ey' hS hv e) ?_;rintro r w1 ⟨rfl,hk1⟩;exact ⟨rfl,hk1⟩
def lE' (B:BoT) (e:Int):Bool × Int:=if az' B e ≠ 0 then (false,az' B e) else (posM B e,0)
theorem qQ' (hS:Sub C w) (hold:∀ b o v,C b o v -> b < w.heap.size) {vb:Value} (hvb:BoV C B vb) (e:Int) :
  CC 11 #[vb,iV e] w (fun r w'=>r = .returned (.tuple #[.bool (lE' B e).1,iV (lE' B e).2]) /\ Kp [] w w'):=by
 refine oF Tryz.func11 ?_;obtain ⟨RES,hRES⟩:∃ r,lE' B e = r:=⟨_,rfl⟩
 rw [hRES];unfold lE' at hRES;have hvv:=hvb;obtain ⟨v1,v2,v3,rfl,hO,hE,hP⟩:=hvb;obtain ⟨ae,ce,rfl⟩:=hE.len;refine cO (args:=[_,_]) 54 [.tmp 4,.tmp 5] τok Tryz.func11 ?_;refine new fun b2 w1 hb2 h2 hs1 hk1=>?_;have h2:Bk w1.heap b2 [iV B.vars,v1,.slice ae B.ents.length ce,iV B.nat,v3] 26:=h2;refine new fun b3 w2 hb3 h3 hs2 hk2=>?_;have h3:Bk w2.heap b3 [iV e] 3:=h3;have h2:=h2.kp hk2 (by simp);have k02:=hk1.tr hk2;refine ldN [iV B.vars,v1,.slice ae B.ents.length ce,iV B.nat,v3] rfl (bZ h2) ?_;refine lb h3 ?_;refine ab' (qP' (hS.tr k02) (Kp.hold k02 hold) hvv e) ?_;rintro r w3 ⟨rfl,hk3⟩;have k03:=k02.tr hk3;have h2:=h2.kp hk3 (by simp);have h3:=h3.kp hk3 (by simp)
 by_cases g0:az' B e ≠ 0
 ·rw [if_pos g0] at hRES
  subst hRES;refine au' g0 ?_;exact ⟨rfl,k03⟩
 rw [if_neg g0] at hRES;refine bz' g0 ?_;have g0:az' B e = 0:=Decidable.not_not.1 g0;obtain ⟨hR,hB,h0,h1,hx,s,ps,qi,hF⟩:=dD' g0;have hi:((e.toNat:Nat):Int) = e:=by omega
 have hlc:=hF.lc;obtain ⟨be,oe,ce',e1,u1,u2,u3,u4,u5,u6,hcs,s1,s2,s3,s4,s5,s6⟩:=eP' (e:=e) hE h0 h1;injection e1 with e1 _ e2
 subst e1 e2;have hone:=gJ' s1 s2 s3 s4 s5 s6;obtain ⟨ap,cp,rfl,hp1,hp2⟩:=id s2;obtain ⟨ac,cc,rfl⟩:=s4.len;have hlp:(entD B e).params.length <= 16 /\ (entD B e).indices.length <= 16:=by
  rw [hF.params,hF.indices];have:=hF.lp;have:=hF.li;simp;omega
 refine lb h2 ?_;refine lb h3 ?_;refine ix e.toNat (by omega) (by omega) ?_;refine ldN [iV (entD B e).kind,u1,.slice ap (entD B e).params.length cp,u3,.slice ac (entD B e).ctors.length cc,u5,u6] rfl (fun j v hj=>hS.tr k03 _ _ _ (hcs j v hj)) ?_;refine new fun b7 w4 hb7 h7 hs4 hk4=>?_;refine stN (vs:=[iV (entD B e).kind,u1,.slice ap (entD B e).params.length cp,u3,.slice ac (entD B e).ctors.length cc,u5,u6]) h7 rfl hone fun w5 h7 hs5 hk5=>?_;have k35:=hk4.newSt hb7 hk5;have k05:=k03.tr k35;have h2:=h2.kp k35 (by simp);have h3:=h3.kp k35 (by simp);refine lb h7 ?_;refine loop τok (σ:=Nat) (fun k=>[(2,pt b2),(3,pt b3),(7,pt b7),(24,.slice ac (entD B e).ctors.length cc),(25,iV ((entD B e).ctors.length:Int)),(26,iV (k:Int))])
  (fun k w'=>k <= (entD B e).ctors.length /\ posM B e = sO' (entD B e).params.length (entD B e).indices.length e ((entD B e).ctors.drop k) /\ Kp [] w5 w') (fun k=>(entD B e).ctors.length - k) 0 ⟨rfl,rfl,rfl,rfl,rfl,rfl,trivial⟩ ⟨KV _,rfl,Kp.refl _ _⟩ ?_
 rintro k w6 ⟨hk,hr,k56⟩;have k06:=k05.tr k56;refine ac' (fun c=>?_) (fun c=>?_)
 ·have hlt:k < (entD B e).ctors.length:=by
   have:(k:Int) < (entD B e).ctors.length:=c;omega
  obtain ⟨ct,hct,hd⟩:=af' hlt;rw [hd] at hr;simp only [sO'] at hr;obtain ⟨ga,go,hC⟩:=hF.ct k ct hct;have hga:ct.args.map tr = ga:=by rw [du' hC.args (fun y hy=>by
   obtain ⟨j,hj⟩:=JH hy;exact (hC.fa j y hj).ok)]
  obtain ⟨bc,oc,cc',e1,hca⟩:=s4.at hct;injection e1 with e1 _ e2
  subst e1 e2;obtain ⟨va,vo,hccs,hva,hvo⟩:=hH' hca;have hone2:∀ v ∈ [va,vo],v.oneCell' = true:=fun v hv=>by
   simp at hv;rcases hv with rfl | rfl
   ·exact hva.one
   ·exact hvo.one
  obtain ⟨aa,ca,rfl,hva1,hva2⟩:=id hva;obtain ⟨ao,co,rfl,hvo1,hvo2⟩:=id hvo;have hal:ct.args.length = ga.length:=by rw [hC.args]; simp
  have hla:=hC.la;refine ix k rfl hlt ?_;refine ldN [.slice aa ct.args.length ca,.slice ao ct.out.length co] rfl (fun j v hj=>hS.tr k06 _ _ _ (hccs j v hj)) ?_;refine new fun b9 w7 hb9 h9 hs7 hk7=>?_;refine stN (vs:=[.slice aa ct.args.length ca,.slice ao ct.out.length co]) h9 rfl hone2 fun w8 h9 hs8 hk8=>?_;have k68:=hk7.newSt hb9 hk8;have k58:=k56.tr k68;have k08:=k05.tr k58;refine lb h9 ?_;have hA0:eg' (entD B e).params.length (entD B e).indices.length e (ct.args.map tr) 0 = eg' (entD B e).params.length (entD B e).indices.length e (ga.drop 0) 0:=by rw [hga]; rfl
  refine loop τok (σ:=Nat) (fun j=>[(2,pt b2),(3,pt b3),(7,pt b7),(24,.slice (some ⟨bc,oc,none⟩) (entD B e).ctors.length cc),(25,iV ((entD B e).ctors.length:Int)),(26,iV (k:Int)),(9,pt b9),(31,.slice aa ct.args.length ca),(32,iV (ct.args.length:Int)),(33,iV (j:Int))])
   (fun j w'=>j <= ga.length /\ eg' (entD B e).params.length (entD B e).indices.length e (ct.args.map tr) 0 = eg' (entD B e).params.length (entD B e).indices.length e (ga.drop j) j /\ Kp [] w8 w') (fun j=>ga.length - j) 0 ⟨rfl,rfl,rfl,rfl,rfl,rfl,rfl,rfl,rfl,rfl,trivial⟩ ⟨KV _,hA0,Kp.refl _ _⟩ ?_
  rintro j w9 ⟨hj,hra,k89⟩;have k59:=k58.tr k89;have k09:=k05.tr k59;have h9:=h9.kp k89 (by simp);refine ac' (fun cj=>?_) (fun cj=>?_)
  ·have hjl:j < ga.length:=by
    have:(j:Int) < ct.args.length:=cj;omega
   obtain ⟨y,hy,hdy⟩:=af' hjl;rw [hdy] at hra;simp only [eg'] at hra;have hyF:=hC.fa j y hy;obtain ⟨ba,oa,ea,hat⟩:=hva1.at (i:=j) (by omega)
   have hat:=hat j (row y) (by rw [hC.args]; simp [hy]);obtain ⟨vy,hvy,hTy⟩:=vT' hat;have hTy:TmV C y vy:=hTy;obtain ⟨_,_,rfl,_,_⟩:=id hTy;subst ea;refine ix j rfl (by omega) ?_;refine ld (Cl.cell (hS.tr k09 _ _ _ hvy)) ?_;refine ldN [iV B.vars,v1,.slice (some ⟨be,oe,none⟩) B.ents.length ce,iV B.nat,v3] rfl (fun j v hj=>by rw [KW]; exact (h2.kp k59 (by simp)).cl hj) ?_;refine lb (h3.kp k59 (by simp)) ?_;refine lb (h7.kp k59 (by simp)) ?_;refine i6 ?_;refine ab' (qO' (hS.tr k09) (Kp.hold k09 hold) hvv ⟨h0,h1,hB.len⟩ hyF.ok hyF.len hTy (ar:=(((entD B e).params.length + j:Nat):Int)) (by omega) hlp) ?_;rintro r w10 ⟨rfl,hk10⟩;refine br (fun cw=>?_) (fun cw=>?_)
   ·have cw:iA' (entD B e).params.length (entD B e).indices.length e y (((entD B e).params.length + j:Nat):Int) = false:=by simpa using cw
    rw [if_pos cw] at hra;refine ⟨?_,k09.tr hk10⟩;have hcf:eO' (entD B e).params.length (entD B e).indices.length e ct = false:=by
     unfold eO';rw [hra]
     rfl
    rw [if_pos hcf] at hr;subst hRES;rw [hr]
    rfl
   ·have cw:¬ iA' (entD B e).params.length (entD B e).indices.length e y (((entD B e).params.length + j:Nat):Int) = false:=by simpa using cw
    rw [if_neg cw] at hra;refine i6 ?_;exact ⟨j + 1,by omega,rfl,⟨rfl,rfl,rfl,rfl,rfl,rfl,rfl,rfl,rfl,rfl,trivial⟩,hjl,hra,k89.tr hk10⟩
  ·have cj:¬ (j:Int) < ct.args.length:=cj
   rw [JY (by omega)] at hra;simp only [eg'] at hra;refine lb h9 ?_;refine ab' (lD' (hS.tr k09) ct.out ao co 21 #[pt b3] (fun t=>cR' t e) hvo1 fun x _ w' k v hv=>uO' ((hS.tr k09).tr k) hv ((h3.kp k59 (by simp)).kp k (by simp))) ?_;rintro r w10 ⟨rfl,hk10⟩;refine br (fun cn=>?_) (fun cn=>?_)
   ·refine ⟨?_,k09.tr hk10⟩
    have hcf:eO' (entD B e).params.length (entD B e).indices.length e ct = false:=by
     unfold eO';rw [hra,if_neg (by decide),cn]
     rfl
    rw [if_pos hcf] at hr;subst hRES;rw [hr]
    rfl
   ·refine i6 ?_
    refine ⟨k + 1,by omega,rfl,⟨rfl,rfl,rfl,rfl,rfl,rfl,trivial⟩,hlt,?_,(k58.tr k89).tr hk10⟩;rw [hr];have hcp:eO' (entD B e).params.length (entD B e).indices.length e ct = true:=by
     unfold eO';rw [hra,if_neg (by decide),cn]
     rfl
    rw [if_neg (by rw [hcp]; decide)]
 ·refine ⟨?_,k06⟩
  have c:¬ (k:Int) < (entD B e).ctors.length:=c;rw [JY (by omega)] at hr;subst hRES;rw [hr]
  rfl
end
def LkC (C:Mem) (w:World) (bl:Nat) (B:BoT) (en:Int) (n:Nat) (er:Int):Prop :=
 ∃ v1 v2 v3,Bk w.heap bl [iV B.vars,v1,v2,iV B.nat,v3,iV en,iV (n:Int),iV er] 54 /\ SV rOr C B.orders v1 /\ SV rEn C B.ents v2 /\ SV rPr C B.prims v3
def TlC (C:Mem) (w:World) (bt bl:Nat) (cx:Ctx):Prop:=∃ vc,Bk w.heap bt [pt bl,vc] 71 /\ SV rBd C (cx.map bdR) vc
section
variable {C D:Mem} {w w':World} {bl bt:Nat} {B:BoT} {en:Int} {n:Nat} {er:Int} {cx:Ctx} {X:List Nat}
theorem LkC.mono (h:LkC C w bl B en n er) (hc:∀ b o v,C b o v -> D b o v):LkC D w bl B en n er:=by
 obtain ⟨v1,v2,v3,h0,h1,h2,h3⟩:=h;exact ⟨v1,v2,v3,h0,h1.mono hc,h2.mono hc,h3.mono hc⟩
theorem LkC.kp (h:LkC C w bl B en n er) (k:Kp X w w') (hb:bl ∉ X):LkC C w' bl B en n er:=by
 obtain ⟨v1,v2,v3,h0,h1,h2,h3⟩:=h;exact ⟨v1,v2,v3,h0.kp k hb,h1,h2,h3⟩
theorem LkC.tr (h:LkC (Im X w) w bl B en n er) (k:Kp [] w w'):LkC (Im X w') w' bl B en n er:=(h.mono fun _ _ _ h=>h.tr k).kp k (by simp)
theorem TlC.mono (h:TlC C w bt bl cx) (hc:∀ b o v,C b o v -> D b o v):TlC D w bt bl cx:=by
 obtain ⟨vc,h0,h1⟩:=h;exact ⟨vc,h0,h1.mono hc⟩
theorem TlC.kp (h:TlC C w bt bl cx) (k:Kp X w w') (hb:bt ∉ X):TlC C w' bt bl cx:=by
 obtain ⟨vc,h0,h1⟩:=h;exact ⟨vc,h0.kp k hb,h1⟩
theorem TlC.tr (h:TlC (Im X w) w bt bl cx) (k:Kp [] w w'):TlC (Im X w') w' bt bl cx:=(h.mono fun _ _ _ h=>h.tr k).kp k (by simp)
theorem TlC.kb (h:TlC (Im X w) w bt bl cx) (k:Kp [bl] w w') (hb:bl ∈ X) (hne:bt ≠ bl):TlC (Im X w') w' bt bl cx:=(h.mono (Im.kb k hb)).kp k (by simpa using hne)
theorem ip' (h:LkC (Im X w) w bl B en n er) (hbl:bl ∈ X) (left:Nat) (e:Int) :
  CC 25 #[pt bl,iV (left:Int),iV e] w (fun r w'=>r = .returned (.bool (decide (e = 0))) /\ LkC (Im X w') w' bl B en left e /\ Kp [bl] w w'):=by
 refine oF Tryz.func25 ?_;obtain ⟨v1,v2,v3,h0,h1,h2,h3⟩:=h;refine cO (args:=[_,_,_]) 17 [.tmp 6] τok Tryz.func25 ?_;refine st (b:=bl) (o:=6) h0 (by simp) rfl fun w1 g1 hs1 hk1=>?_;refine st (b:=bl) (o:=7) g1 (by simp) rfl fun w2 g2 hs2 hk2=>?_;have k:Kp [bl] w w2:=hk1.tq hk2;have up:=Im.kb k hbl;exact ⟨rfl,⟨v1,v2,v3,g2,h1.mono up,h2.mono up,h3.mono up⟩,k⟩
theorem gK' (h:LkC (Im X w) w bl B en n er) (hbl:bl ∈ X) (e:Int) (he:e ≠ 0) :
  CC 51 #[pt bl,iV e] w (fun r w'=>r = .returned (.bool false) /\ LkC (Im X w') w' bl B en 0 e /\ Kp [bl] w w'):=by
 refine oF Tryz.func51 ?_;refine cO (args:=[_,_]) 8 [.tmp 4] τok Tryz.func51 ?_;refine ab' (ip' h hbl 0 e) ?_;rintro r w1 ⟨rfl,h1,k1⟩;rw [decide_eq_false he];exact ⟨rfl,h1,k1⟩
theorem nT' (hB:GoodB B) (hcx:CxOk B cx) (hcl:cx.length <= 260) (hX:XL X w) (hbl:bl ∈ X) (hne:bt ≠ bl) (hL:LkC (Im X w) w bl B en n er) (hT:TlC (Im X w) w bt bl cx) {x:Tr} (hx:Ft (QB B) (cx.length:Int) x) {v:Value} (hv:TmV (Im X w) x v) :
  CC 47 #[pt bt,v] w (fun e w'=>mA' (bx' B cx x (n:Int)) (fun q=>(∃ a c,e = .returned (.tuple #[.slice a q.1.2.length c,.bool true]) /\ Sl rAt (Im X w') a q.1.2) /\ LkC (Im X w') w' bl B en q.2 0) (fun e'=>e = .returned (.tuple #[.slice none 0 0,.bool false]) /\ e' ≠ 0 /\ LkC (Im X w') w' bl B en 0 e') /\ Kp [bl] w w'):=by
 refine oF Tryz.func47 ?_;have hLL:=hL;have hTT:=hT;obtain ⟨v1,v2,v3,hl,hO,hE,hP⟩:=hL;obtain ⟨vc,ht,hc⟩:=hT;obtain ⟨ac,cc,rfl,_,_⟩:=id hc;obtain ⟨av,cv,rfl,_,_⟩:=id hv;refine cO (args:=[_,_]) 43 [.tmp 4,.tmp 5] τok Tryz.func47 ?_;refine aw' τok (fun z=>Kp [] w z) ?_;refine rV τok (rg 0 19) 10 (mR 29 19) (kQd w) ?_;refine lk ht ?_;refine dG' [iV B.vars,v1,v2,iV B.nat,v3] rfl (fun j u hj=>by
  refine hl.cl ?_;rw [KW]
  match j,hj with
  | 0,hj=>exact hj
  | 1,hj=>exact hj
  | 2,hj=>exact hj
  | 3,hj=>exact hj
  | 4,hj=>exact hj
  | j + 5,hj=>cases hj) ?_
 refine lk ht ?_;refine lk ht ?_;refine lk hl ?_;refine nV τok 19 9 (mR 29 20) ?_;refine ab' (qA' (w:=(dr w)) (X:=X) (fuel:=(n:Int)) hB hcx hcl hX hx ⟨v1,v2,v3,rfl,hO,hE,hP⟩ hc hv) ?_;rintro e w1 ⟨he,hk1⟩;have hk1:Kp [] w w1:=hk1.rd;have hL1:=hLL.tr hk1;have ht1:=ht.kp hk1 (by simp);cases hr:bx' B cx x (n:Int) with
 | error e' =>
  rw [hr] at he;obtain rfl:=he;have he':e' ≠ 0:=dC' (bS' hB GJ) hr;refine ⟨.inl hk1,?_⟩;refine rV τok (rg 20 9) 0 (mR 29 29) hk1 ?_;refine dV ?_;refine lb ht1 ?_;refine ab' (ip' hL1 hbl 0 e') ?_;rintro r w2 ⟨rfl,h2,k2⟩;rw [decide_eq_false he'];exact ⟨⟨rfl,he',h2⟩,(hk1.weak (by simp)).tq k2⟩
 | ok q =>
  rw [hr] at he;obtain ⟨al,cl,rfl,hl⟩:=he;refine ⟨.inl hk1,?_⟩;refine rV τok (rg 20 9) 0 (mR 29 29) hk1 ?_;refine dV ?_;refine lb ht1 ?_;refine ab' (ip' hL1 hbl q.2 0) ?_;rintro r w2 ⟨rfl,h2,k2⟩;exact ⟨⟨⟨al,cl,rfl,hl.mono (Im.kb k2 hbl)⟩,h2⟩,(hk1.weak (by simp)).tq k2⟩
theorem tG' {bp T:Nat} {v:Value} {x:Tr} (hB:Bk w.heap bp [v,.slice none 0 0] T) (hb:bp ∉ X) (hv:TmV (Im X w) x v):Sl rBd (Im X w) (some ⟨bp,0,none⟩) [(row x,[])]:=by
 refine ⟨by simp,.inr ⟨bp,0,rfl,fun i q hq=>?_⟩⟩
 match i,hq with
 | 0,hq =>
  obtain rfl:(row x,[]) = q:=by simpa using hq
  refine ⟨[v,.slice none 0 0],⟨_,_,rfl,TmV.sv.1 hv,SV.nil _ _⟩,fun j u hj=>⟨?_,hb⟩⟩;rw [Nat.zero_mul,Nat.add_zero,KW];exact hB.cl hj
 | i + 1,hq=>simp at hq
theorem nU' (cx:Ctx) (x:Tr):(cx ++ [(x,none)]).map bdR = cx.map bdR ++ [(row x,[])]:=by simp [bdR,on']
theorem qR' (hB:GoodB B) {cx0:Ctx} {n0:Nat} (hcx0:CxOk B cx0) {ys:List Tr} (hcl:cx0.length + ys.length <= 260) (hX:XL X w) (hbl:bl ∈ X) (hbt:bt ∈ X) (hne:bt ≠ bl) (hL:LkC (Im X w) w bl B en n0 0) (hT:TlC (Im X w) w bt bl cx0)
  (hys:∀ (i:Nat) y,ys[i]? = some y -> Ft (QB B) ((cx0.length + i:Nat):Int) y) {v:Value} (hv:TmsV (Im X w) ys v) :
  CC 26 #[pt bt,v] w (fun e w'=>mA' (kk' B ys cx0 n0) (fun q=>e = .returned (.bool true) /\ LkC (Im X w') w' bl B en q.2 0 /\ TlC (Im X w') w' bt bl q.1) (fun e'=>e = .returned (.bool false) /\ e' ≠ 0 /\ LkC (Im X w') w' bl B en 0 e') /\ Kp [bl,bt] w w'):=by
 refine oF Tryz.func26 ?_;obtain ⟨RES,hRES⟩:∃ r,kk' B ys cx0 n0 = r:=⟨_,rfl⟩
 rw [hRES];have hvv:=hv;obtain ⟨av,cv,rfl,_,_⟩:=hv;refine cO (args:=[_,_]) 36 [.tmp 4] τok Tryz.func26 ?_;refine loop τok (σ:=Nat × Ctx × Nat) (fun q=>[(0,pt bt),(9,.slice av ys.length cv),(10,iV (ys.length:Int)),(11,iV (q.1:Int))])
  (fun q w'=>q.1 <= ys.length /\ RES = kk' B (ys.drop q.1) q.2.1 q.2.2 /\ CxOk B q.2.1 /\ q.2.1.length = cx0.length + q.1 /\ LkC (Im X w') w' bl B en q.2.2 0 /\ TlC (Im X w') w' bt bl q.2.1 /\ Kp [bl,bt] w w') (fun q=>ys.length - q.1) (0,cx0,n0) ⟨rfl,rfl,rfl,rfl,trivial⟩
  ⟨KV _,hRES.symm,hcx0,rfl,hL,hT,Kp.refl _ _⟩ ?_
 rintro ⟨i,cx,n⟩ w1 ⟨hi,hr,hcx,hcxl,hL1,hT1,k1⟩;simp only at hi hr hcx hcxl hL1 hT1;refine ac' (fun c=>?_) (fun c=>?_)
 ·have hlt:i < ys.length:=by
   have:(i:Int) < ys.length:=c;omega
  obtain ⟨y,hy,hd⟩:=af' hlt;rw [hd] at hr;simp only [kk'] at hr;have hyF:=hys i y hy;rw [<- hcxl] at hyF;have up:=fun b o v (h:Im X w b o v)=>Im.kp (Y:=[bl,bt]) (X:=X) k1 (fun y hy _=>by simp at hy; rcases hy with rfl | rfl <;> assumption) h;have hX1:=xU hX k1;obtain ⟨b,o,cc,e1,u,hcu,hTu⟩:=(hvv.mono up).get hy;injection e1 with e1 _ e2
  subst e1 e2;obtain ⟨au,cu,rfl,_,_⟩:=id hTu;refine ix i rfl hlt ?_;refine ld (Cl.cell hcu.1) ?_;refine ab' (nT' hB hcx (by omega) hX1 hbl hne hL1 hT1 hyF hTu) ?_;rintro e w2 ⟨he,k2⟩;have k02:Kp [bl,bt] w w2:=k1.trans k2 fun x hx _=>by simp at hx; simp [hx]
  cases hs:bx' B cx y (n:Int) with
  | error e' =>
   rw [hs] at he hr;obtain ⟨rfl,he',hL2⟩:=he;subst hr;exact ⟨⟨rfl,he',hL2⟩,k02⟩
  | ok q =>
   rw [hs] at he hr;obtain ⟨⟨al,cl,rfl,_⟩,hL2⟩:=he;have hr:RES = kk' B (ys.drop (i + 1)) (cx ++ [(y,none)]) q.2:=hr;have hTu2:TmV (Im X w2) y (.slice au (row y).length cu):=hTu.mono (Im.kb k2 hbl);have hT2:=hT1.kb k2 hbl hne;have hcml:(cx.map bdR).length <= 260:=by simp; omega
   obtain ⟨vc1,ht1,hc1⟩:=hT2;have hXz:∀ b ∈ X,b < (w2).heap.size:=fun b hb=>KZ (hX b hb) (k02).size;obtain ⟨ac1,cc1,rfl,hc1a,hc1b⟩:=id hc1;refine lb ht1 ?_;refine ab' (jP' (R:=rBd) rfl (C:=Im X w2) _ ac1 cc1 hc1a hc1b) ?_;rintro r wp1 ⟨⟨a1,rfl,hcl1⟩,kp1⟩;refine fill [.slice au (row y).length cu,.slice none 0 0] rfl ?_;refine new fun bp wp2 hbp hP2 hsp2 kp2=>?_;have hP2:Bk wp2.heap bp [.slice au (row y).length cu,.slice none 0 0] 100:=hP2;have kz2:=kp1.tr kp2;have hbpX:bp ∉ X:=fun h=>by
    have:=hXz bp h;have:=kp1.size;have hbp:bp = wp1.heap.size:=hbp;omega
   have hX2:=xU hXz kz2;refine nz' τok rfl rfl (by decide) (R:=rBd) (C:=Im X wp2) (l:=cx.map bdR) (m:=[(row y,[])]) (Im.sub X wp2) (hcl1.mono fun _ _ _ h=>h.tr kz2) (tG' hP2 hbpX (TmV.mono hTu2 fun _ _ _ h=>h.tr kz2)) (by simp) (by simp; omega) (by simp [maxLen]; omega) (by simp; omega) fun vn wp3 hvn kp3=>?_;have hvn1:=hvn.one;have kz3:=kz2.tr kp3;refine st (b:=bt) (o:=1) (ht1.kp kz3 (by simp)) (by simp) hvn1 fun wp4 ht4 hsp4 kp4=>?_;have ht4:Bk wp4.heap bt [pt bl,vn] 71:=ht4;have kz4:Kp [bt] w2 wp4:=(kz3.weak (by simp)).tq kp4;have hT4:TlC (Im X wp4) wp4 bt bl (cx ++ [(y,none)]):=⟨vn,ht4,by
    rw [nU'];exact (hvn.mono fun _ _ _ h=>Cn.im hX2 (kp3.weak (by simp)) h).mono (Im.kb kp4 hbt)⟩
   have k04:Kp [bl,bt] w wp4:=k02.trans kz4 fun x hx _=>by simp at hx; simp [hx]
   have hL4:=(hL2.mono (Im.kb kz4 hbt)).kp kz4 (by simpa using Ne.symm hne);refine i6 ?_;exact ⟨(i + 1,cx ++ [(y,none)],q.2),by simp only; omega,rfl,⟨rfl,rfl,rfl,rfl,trivial⟩,hlt,hr,hcx.snoc hyF (by simp),by simp; omega,hL4,hT4,k04⟩
 ·have c:¬ (i:Int) < ys.length:=c
  rw [JY (by omega)] at hr;subst hr;exact ⟨⟨rfl,hL1,hT1⟩,k1⟩
end
theorem qS' {x:Tr} (hx:Ok .tm x) (hs:cB' x) {b n f:Int} (h0:0 <= b) (hb:b <= 500000) (h:Bl x n):Bl (al' x b f) (n + b):=by
 have:=rQ' (h:=aH' b f) (M:=n + b) (fun d m y e h1 hp=>gE' h0 hp h1 e) x .tm 0 0 _ hx.1 (fun q hq m h1 hp hm z e=>by
  have hq:=h q hq;simp only [aH'] at e;split at e
  ·split at e
   ·cases e
   ·obtain rfl:=JB e
    intro p hp;simp only [varsT,h1,if_true,JJ,JZ,or_false] at hp;subst hp;simp only;omega
  ·obtain rfl:=JB e
   intro p hp;simp only [varsT,h1,if_true,JJ,JZ,or_false] at hp;subst hp;simp only;omega) (ax' hx hs hb)
 exact this
theorem Ft.liftF {Q:Nd -> Prop} {N:Int} {x:Tr} (hQ:Qk Q) (h:Ft Q N x) (hN:N <= 100000) {b f:Int} (h0:0 <= b) (hb:b <= 500000):Ft Q (N + b) (al' x b f) :=
 ⟨da' h.ok (h.small hN) h0 hb,KQ (fh' h.ok (h.small hN) hb) h.len,qS' h.ok (h.small hN) h0 hb h.bl,jF' hQ.var h.ok (h.small hN) hb h.al⟩
section
variable {C:Mem} {w:World} {Q:Nd -> Prop} {N:Int} {x y:Tr} {v:Value}
theorem qT' (hS:Sub C w) (hx:Ft Q N x) (h2:x.n.op = 2) (hv:TmV C x v) :
  CC 50 #[v] w (fun e w'=>∃ a c,e = .returned (.slice a (cA' x).length c) /\ Sl rAt (New w.heap.size w') a (cA' x) /\ Kp [] w w'):=by
 refine oF Tryz.func50 ?_;obtain ⟨hrow,hl4,hlb,hks⟩:=jU' hx.ok h2;have hp:=hx.ok.pl;have hpp:(x.n.a = 0 \/ x.n.a = 1) /\ inR x.n.b 1 4 = true:=by simpa [ah',h2] using hp
 have hb1:=aG'.1 hpp.2;have hvv:=hv;obtain ⟨b,o,c,rfl,_,_,_,_⟩:=hv.hd;have hlen:(row x).length = x.ks.length + 1:=by rw [hrow]; simp
 have hll:(cA' x).length = x.ks.length:=by simp [cA']
 refine cO (args:=[_]) 23 [.tmp 2] τok Tryz.func50 ?_;obtain ⟨_,_,hvc,_,hcc⟩:=hvv;injection hvc with _ _ q3
 refine jt' τok rfl 1 (.slice (some ⟨b,o + 1 * 3,none⟩) ((row x).length - 1) (c - 1)) rfl (by omega) (eZ' (by omega)) ?_;have e1:(row x).length - 1 = x.ks.length:=by omega
 rw [e1];refine lp τok (σ:=Nat × Value) (fun q=>[(3,q.2),(7,.slice (some ⟨b,o + 1 * 3,none⟩) x.ks.length (c - 1)),(8,iV (x.ks.length:Int)),(9,iV (q.1:Int))])
  (fun q w'=>q.1 <= x.ks.length /\ Own rAt 148 w.heap.size w' q.2 ((cA' x).take q.1) /\ Kp [] w w') (fun q=>x.ks.length - q.1) (0,.slice none 0 0) rfl
  ⟨rfl,rfl,rfl,rfl,trivial⟩ ⟨KV _,Own.nil _ _ (KJ _),Kp.refl _ _⟩ ?_
 rintro ⟨i,v1⟩ w1 ⟨hi,hO,hk1⟩;simp only at hi hO;refine ac' (fun g=>?_) (fun g=>?_)
 ·have g:(i:Int) < x.ks.length:=g
  obtain ⟨k,hk,_⟩:=af' (l:=x.ks) (k:=i) (by omega);have hki:=hks k (JQ hk);obtain ⟨b',o',c',hve,hi1,hi2,hi3,hc⟩:=hv.nd (i:=i + 1) (n:=k.n) (by rw [hrow]; simp [hk]);injection hve with q1 q2 q4
  injection q1 with q1
  injection q1 with q1 q5 q6
  subst q1 q5;have hlv:(cA' x)[i]? = some ⟨k.n.a,k.n.b⟩:=by simp [cA',hk]
  refine ix i rfl (by omega) ?_;refine ldN [iV k.n.op,iV k.n.a,iV k.n.b] rfl (fun j u hj=>by
   have:=hc j u hj;rw [show o + (i + 1) * 3 + j = o + 1 * 3 + i * 3 + j by omega] at this;exact hS.tr hk1 _ _ _ this) ?_
  refine new fun b5 w2 hb5 h5 hs2 hk2=>?_;refine stN (vs:=[iV k.n.op,iV k.n.a,iV k.n.b]) h5 rfl (by simp [Value.oneCell']) fun w3 h5 hs3 hk3=>?_;have k13:=hk2.newSt hb5 hk3;refine lb h5 ?_;refine lb h5 ?_;refine fill [iV k.n.a,iV k.n.b] rfl ?_;refine new fun b6 w4 hb6 h6 hs4 hk4=>?_;have k14:=k13.tr hk4;have hlen4:((cA' x).take i).length = i:=by simp; omega
  refine (hO.kp k14).ap1 τok rfl rfl (by decide) ⟨k.n.a,k.n.b⟩ [iV k.n.a,iV k.n.b] ⟨rfl,hi2,hi3⟩ (bZ h6) (by rw [hlen4]; omega) (by rw [hlen4]; unfold maxLen; omega) fun v2 w5 hO5 hk5 _=>?_;refine i6 ?_;refine ⟨(i + 1,v2),by simp only; omega,rfl,⟨rfl,rfl,rfl,rfl,trivial⟩,by show i + 1 <= _; omega,?_,(hk1.tr k14).own hk5 (hO.kp k14)⟩;rw [aq' hlv];exact hO5
 ·rw [JG (by omega)] at hO
  obtain ⟨a,c2,rfl,hs⟩:=hO.den (by omega);exact ⟨a,c2,rfl,hs,hk1⟩
end
def EnV (C:Mem) (x:EnT) (v:Value):Prop:=∃ u1 u2 u3 u4 u5 u6,v = .agg #[iV x.kind,u1,u2,u3,u4,u5,u6] /\ SV rNd C x.sort u1 /\ SV (rSk rNd) C x.params u2 /\ SV (rSk rNd) C x.indices u3 /\ SV rCt C x.ctors u4 /\ SV rNd C x.type u5 /\ SV rNd C x.body u6
def CtV (C:Mem) (c:CtT) (v:Value):Prop:=∃ va vo,v = .agg #[va,vo] /\ SV (rSk rNd) C c.args va /\ SV (rSk rNd) C c.out vo
theorem EnV.mono {C D:Mem} {x:EnT} {v:Value} (h:EnV C x v) (hc:∀ b o v,C b o v -> D b o v):EnV D x v:=by
 obtain ⟨u1,u2,u3,u4,u5,u6,h0,h1,h2,h3,h4,h5,h6⟩:=h;exact ⟨u1,u2,u3,u4,u5,u6,h0,h1.mono hc,h2.mono hc,h3.mono hc,h4.mono hc,h5.mono hc,h6.mono hc⟩
theorem CtV.mono {C D:Mem} {c:CtT} {v:Value} (h:CtV C c v) (hc:∀ b o v,C b o v -> D b o v):CtV D c v:=by
 obtain ⟨va,vo,h0,h1,h2⟩:=h;exact ⟨va,vo,h0,h1.mono hc,h2.mono hc⟩
section
variable {C:Mem} {w:World}
theorem uP' (hS:Sub C w) (hold:∀ b o v,C b o v -> b < w.heap.size) {B:BoT} {x:EnT} {c:CtT} {qi ga go:List Tr} {np:Nat} (hxi:x.indices = qi.map row) (hca:c.args = ga.map row) (hco:c.out = go.map row)
  (hnp:np <= 16) (hna:ga.length <= 16) (hqi:∀ (k:Nat) y,qi[k]? = some y -> Ft (QB B) ((np + k:Nat):Int) y) (hgo:∀ y ∈ go,Ft (QB B) ((np + ga.length:Nat):Int) y) (hql:qi.length <= 16) (hlo:go.length = qi.length) {ve vc:Value} (hve:EnV C x ve) (hvc:CtV C c vc) {j:Nat} (hj:j < qi.length) :
  CC 52 #[ve,vc,iV (j:Int)] w (TyP C w (io' qi go ga.length j)):=by
 refine oF Tryz.func52 ?_;obtain ⟨RES,hRES⟩:∃ r,io' qi go ga.length j = r:=⟨_,rfl⟩
 rw [hRES];unfold io' at hRES;obtain ⟨u1,u2,u3,u4,u5,u6,rfl,s1,s2,s3,s4,s5,s6⟩:=hve;obtain ⟨va,vo,rfl,hva,hvo⟩:=hvc;obtain ⟨y,hy,_⟩:=af' hj;have hyD:qi.getD j (varX 0) = y:=by simp [hy]
 rw [hyD] at hRES;have hyF:=hqi j y hy;rw [hxi] at s3;rw [hca] at hva;rw [hco] at hvo;have s3:=TmsV.sv.2 s3;have hva:=TmsV.sv.2 hva;have hvo:=TmsV.sv.2 hvo;obtain ⟨aa,ca,rfl,_,_⟩:=id hva;refine cO (args:=[_,_,_]) 55 [.tmp 6,.tmp 7] τok Tryz.func52 ?_;refine new fun b3 w1 hb3 h3 hs1 hk1=>?_;have h3:Bk w1.heap b3 [iV x.kind,u1,u2,u3,u4,u5,u6] 40:=h3;refine new fun b4 w2 hb4 h4 hs2 hk2=>?_;have h4:Bk w2.heap b4 [.slice aa ga.length ca,vo] 47:=h4;have h3:=h3.kp hk2 (by simp);have k02:=hk1.tr hk2;have hS2:=hS.tr k02;obtain ⟨b,o,cc,rfl,u,hcu,hTu⟩:=s3.get hy;obtain ⟨au,cu,rfl,hTu1,hTu2⟩:=id hTu;refine aw' τok (fun z=>Kp [] w2 z) ?_;refine rV τok (rg 0 9) 6 (mR 15 9) (kQd w2) ?_;refine lk h3 ?_;refine ix j rfl hj ?_;refine ldK (hS2 _ _ _ hcu) ?_;refine lk h4 ?_;refine nV τok 9 5 (mR 15 10) ?_;refine ab' (na' (C:=C) y hyF.ok (hyF.small (by omega)) au cu hTu1 hTu2 hyF.len (dr w2) hS2 (fun b o v h=>Kp.hold k02 hold b o v h) (ga.length:Int) (j:Int) (by omega) (by omega)) ?_;rintro e w3 ⟨⟨v0,rfl,hv0⟩,hk3⟩;have hv0:IsTm (al' y (ga.length:Int) (j:Int)) w2 w3 v0:=hv0;have hk3:Kp [] w2 w3:=hk3.rd;have k03:=k02.tr hk3;refine ⟨.inl hk3,?_⟩;refine rV τok (rg 10 5) 0 (mR 15 15) hk3 ?_;refine dV ?_;refine i6 ?_;have hF0:Ft (QB B) ((np + ga.length + j:Nat):Int) (al' y (ga.length:Int) (j:Int)):=by
  have:=hyF.liftF (qk B) (by omega) (b:=(ga.length:Int)) (f:=(j:Int)) (by omega) (by omega)
  rwa [show ((np + j:Nat):Int) + (ga.length:Int) = ((np + ga.length + j:Nat):Int) by omega] at this
 have hT0:TmV (Cn C w w3) (al' y (ga.length:Int) (j:Int)) v0:=hv0.cn k02.size;obtain ⟨a0,c0,rfl,_,_⟩:=id hT0;refine loop τok (σ:=Int × Value × Int) (fun q=>[(2,iV (j:Int)),(3,pt b3),(4,pt b4),(8,q.2.1),(9,iV q.2.2),(10,iV q.1)])
  (fun q w'=>-1 <= q.1 /\ q.1 <= 16 /\ Kp [] w3 w' /\ ((q.2.2 = 0 /\ ∃ (t:Tr) (m:Nat),q.1 = (m:Int) - 1 /\ m <= j /\ RES = eh' go m t /\ Ft (QB B) ((np + ga.length + m:Nat):Int) t /\ TmV (Cn C w w') t q.2.1) \/ (q.2.2 ≠ 0 /\ RES = .error q.2.2 /\ q.2.1 = .slice none 0 0))) (fun q=>(q.1 + 1).toNat)
  ((j:Int) - 1,.slice a0 (row (al' y (ga.length:Int) (j:Int))).length c0,0) ⟨rfl,rfl,rfl,rfl,rfl,rfl,trivial⟩ ⟨by simp only; omega,by simp only; omega,Kp.refl _ _,.inl ⟨rfl,_,j,rfl,KJ _,hRES.symm,hF0,hT0⟩⟩ ?_
 rintro ⟨i,vt,er⟩ w4 ⟨hi0,hi1,k34,hst⟩;simp only at hi0 hi1 hst;have k04:=k03.tr k34;have fin:∀ {w':World},Kp [] w w' -> (i < 0 \/ er ≠ 0) -> Kp [] w4 w' -> TyP C w RES (.returned (.tuple #[vt,iV er])) w':=fun {w'} k hh k4=>by
  refine ⟨?_,k⟩;rcases hst with ⟨h0,t,m,hm,hmj,hR,_,hT⟩ | ⟨h0,hR,hv⟩
  ·have hm0:m = 0:=by omega
   subst hm0;simp only [eh'] at hR;rw [hR,h0];exact ⟨vt,rfl,hT.mono fun _ _ _ h=>h.up k4⟩
  ·rw [hR,hv]
   exact ⟨rfl,h0⟩
 refine ac' (fun g=>?_) (fun g=>?_)
 ·have g:(0:Int) <= i:=g
  refine ac' (fun g2=>?_) (fun g2=>?_)
  ·have g2:er = 0:=g2
   subst g2;rcases hst with ⟨_,t,m,hm,hmj,hR,hF,hT⟩ | ⟨h0,_⟩
   ·obtain ⟨m,rfl⟩:∃ m',m = m' + 1:=⟨m - 1,by omega⟩
    have hi:i = (m:Int):=by omega
    subst hi;simp only [eh'] at hR;obtain ⟨z,hz,_⟩:=af' (l:=go) (k:=m) (by omega);have hzD:go.getD m (varX 0) = z:=by simp [hz]
    rw [hzD] at hR;have hzF:=hgo z (JQ hz);have h4:=h4.kp (hk3.tr k34) (by simp);have hS4:=hS.tr k04;have hvo1:=(TmsV.sv.1 hvo).one;obtain ⟨bo,oo,co,rfl,uo,hco',hTo⟩:=hvo.get hz;obtain ⟨ao',co',rfl,_,_⟩:=id hTo;obtain ⟨at_,ct_,rfl,_,_⟩:=id hT;refine lb h4 ?_;refine ix m rfl (by omega) ?_;refine ld (Cl.cell (hS4 _ _ _ hco')) ?_;refine ab' (dS' hS4 (Kp.hold k04 hold) hzF (by omega) hTo (b:=(m:Int)) (by omega)) ?_;rintro e w5 ⟨ul,rfl,hul,hk5⟩;have k05:=k04.tr hk5;have hFl:Ft (QB B) ((np + ga.length + m:Nat):Int) (al' z (m:Int) 0):=by
     have:=hzF.lift (qk B) (by omega) (b:=(m:Int)) (by omega) (by omega)
     rwa [show ((np + ga.length:Nat):Int) + (m:Int) = ((np + ga.length + m:Nat):Int) by omega] at this
    have hTl:TmV (Cn C w w5) (al' z (m:Int) 0) ul:=hul.cn k04.size;obtain ⟨al,cl,rfl,_,_⟩:=id hTl;have hT5:=hT.mono fun _ _ _ h=>Cn.up hk5 h;refine ab' (id' (C:=Cn C w w5) (Cn.sub hS k05) (fun _ _ _ h=>Cn.hold hold k05 h) (N:=((np + ga.length + m:Nat):Int)) (x:=t) (v:=0) (hF.mono (by omega)) hFl (by omega) hT5 hTl (by omega)) ?_;rintro e w6 ⟨he,hk6⟩;have k36:=(k34.tr hk5).tr hk6;cases hsb:aA' t (al' z (m:Int) 0) 0 with
    | error e' =>
     rw [hsb] at he hR;obtain ⟨rfl,he'⟩:=he;refine i6 ?_;exact ⟨((m:Int) - 1,.slice none 0 0,e'),by simp only; omega,rfl,⟨rfl,rfl,rfl,rfl,rfl,rfl,trivial⟩,by simp only; omega,by simp only; omega,k36,.inr ⟨he',hR,rfl⟩⟩
    | ok t' =>
     rw [hsb] at he hR;obtain ⟨u',rfl,hu'⟩:=he;obtain ⟨a',c',rfl,_,_⟩:=id hu';have hF':=aR' (qk B) (N:=((np + ga.length + m:Nat):Int)) (v:=0) (hF.mono (by omega)) hFl (by omega) (by omega) (by omega) (by omega) hsb;rw [Int.add_zero] at hF';refine i6 ?_;exact ⟨((m:Int) - 1,_,0),by simp only; omega,rfl,⟨rfl,rfl,rfl,rfl,rfl,rfl,trivial⟩,by simp only; omega,by simp only; omega,k36,.inl ⟨rfl,t',m,rfl,by omega,hR,hF',hu'.mono fun _ _ _ h=>Cn.two (D:=C) hk6 k05.size h⟩⟩
   ·exact absurd rfl h0
  ·exact fin k04 (.inr g2) (Kp.refl _ _)
 ·have g:¬ (0:Int) <= i:=g
  exact fin k04 (.inl (by omega)) (Kp.refl _ _)
end
section
variable {w:World} {bl bt:Nat} {B:BoT} {en:Int} {X:List Nat}
theorem sQ' (hB:GoodB B) {cx0:Ctx} {n0:Nat} (hcx0:CxOk B cx0) {ys:List Tr} (hla:ys.length <= 16) (hl16:cx0.length <= 16) (hX:XL X w) (hbl:bl ∈ X) (hbt:bt ∈ X) (hne:bt ≠ bl) (hL:LkC (Im X w) w bl B en n0 0) (hT:TlC (Im X w) w bt bl cx0)
  (hys:∀ (i:Nat) y,ys[i]? = some y -> Ft (QB B) ((cx0.length + i:Nat):Int) y) {s:Tr} (hs:Ft (QB B) 0 s) (hs2:s.n.op = 2) (hes:(entD B en).sort = row s) (hen:0 <= en /\ en < B.ents.length) (hnp:(entD B en).params.length <= 16 /\ (entD B en).indices.length <= 16)
  {c:CtT} (hca:c.args = ys.map row) {ve vc:Value} (hve:EnV (Im X w) (entD B en) ve) (hvc:CtV (Im X w) c vc) :
  CC 27 #[pt bt,ve,vc] w (fun e w'=>mA' (fV' B en ys cx0 n0) (fun q=>e = .returned (.bool true) /\ LkC (Im X w') w' bl B en q.2 0 /\ TlC (Im X w') w' bt bl q.1) (fun e'=>e = .returned (.bool false) /\ e' ≠ 0 /\ LkC (Im X w') w' bl B en 0 e') /\ Kp [bl,bt] w w'):=by
 refine oF Tryz.func27 ?_;obtain ⟨RES,hRES⟩:∃ r,fV' B en ys cx0 n0 = r:=⟨_,rfl⟩
 rw [hRES];have hlev:cA' (tr (entD B en).sort) = cA' s:=by rw [hes,dU' hs.ok]
 obtain ⟨np,hnpe⟩:∃ n,(entD B en).params.length = n:=⟨_,rfl⟩
 obtain ⟨ni,hnie⟩:∃ n,(entD B en).indices.length = n:=⟨_,rfl⟩
 obtain ⟨u1,u2,u3,u4,u5,u6,rfl,s1,s2,s3,s4,s5,s6⟩:=hve;obtain ⟨va,vo,rfl,hva,hvo⟩:=hvc;rw [hca] at hva;have hva:=TmsV.sv.2 hva;have hvv:=hva;obtain ⟨av,cv,rfl,_,_⟩:=hva;rw [hes] at s1;have s1:TmV (Im X w) s u1:=s1;obtain ⟨asr,csr,rfl,_,_⟩:=id s1;refine cO (args:=[_,_,_]) 93 [.tmp 6] τok Tryz.func27 ?_;refine new fun b4 wa hb4 h4 hsa hka=>?_;have h4:Bk wa.heap b4 [iV (entD B en).kind,.slice asr (row s).length csr,u2,u3,u4,u5,u6] 40:=h4;refine new fun b5 wb hb5 h5 hsb hkb=>?_;have h5:Bk wb.heap b5 [.slice av ys.length cv,vo] 47:=h5;have k0b:=hka.tr hkb;have h4:=h4.kp hkb (by simp);have hb4n:b4 ∉ [bl,bt]:=by
  have:=hX bl hbl;have:=hX bt hbt;have hb4:b4 = w.heap.size:=hb4;simp;omega
 refine lb h5 ?_;refine loop τok (σ:=Nat × Ctx × Nat) (fun q=>[(0,pt bt),(4,pt b4),(12,.slice av ys.length cv),(13,iV (ys.length:Int)),(14,iV (q.1:Int))])
  (fun q w'=>q.1 <= ys.length /\ RES = fV' B en (ys.drop q.1) q.2.1 q.2.2 /\ CxOk B q.2.1 /\ q.2.1.length = cx0.length + q.1 /\ LkC (Im X w') w' bl B en q.2.2 0 /\ TlC (Im X w') w' bt bl q.2.1 /\ Kp [bl,bt] wb w') (fun q=>ys.length - q.1) (0,cx0,n0) ⟨rfl,rfl,rfl,rfl,rfl,trivial⟩
  ⟨KV _,hRES.symm,hcx0,rfl,hL.tr k0b,hT.tr k0b,Kp.refl _ _⟩ ?_
 rintro ⟨i,cx,n⟩ w1 ⟨hi,hr,hcx,hcxl,hL1,hT1,kb1⟩;simp only at hi hr hcx hcxl hL1 hT1;have k1:Kp [bl,bt] w w1:=(k0b.weak (by simp)).tq kb1;refine ac' (fun c=>?_) (fun c=>?_)
 ·have hlt:i < ys.length:=by
   have:(i:Int) < ys.length:=c;omega
  obtain ⟨y,hy,hd⟩:=af' hlt;rw [hd] at hr;simp only [fV'] at hr;have hyF:=hys i y hy;rw [<- hcxl] at hyF;have up:=fun b o v (h:Im X w b o v)=>Im.kp (Y:=[bl,bt]) (X:=X) k1 (fun y hy _=>by simp at hy; rcases hy with rfl | rfl <;> assumption) h;have hX1:=xU hX k1;obtain ⟨b,o,cc,e1,u,hcu,hTu⟩:=(hvv.mono up).get hy;injection e1 with e1 _ e2
  subst e1 e2;obtain ⟨au,cu,rfl,_,_⟩:=id hTu;have h41:=h4.kp kb1 hb4n;refine ix i rfl hlt ?_;refine ld (Cl.cell hcu.1) ?_;refine ab' (nT' hB hcx (by omega) hX1 hbl hne hL1 hT1 hyF hTu) ?_;rintro e w2 ⟨he,k2⟩;have k02:Kp [bl,bt] w w2:=k1.trans k2 fun x hx _=>by simp at hx; simp [hx]
  cases hsj:bx' B cx y (n:Int) with
  | error e' =>
   rw [hsj] at he hr;obtain ⟨rfl,he',hL2⟩:=he;subst hr;exact ⟨⟨rfl,he',hL2⟩,k02⟩
  | ok q =>
   rw [hsj] at he hr;obtain ⟨⟨al,cl,rfl,hal⟩,hL2⟩:=he;have hr:RES = if dH' B.vars B.orders q.1.2 (cA' (tr (entD B en).sort)) = false then .error 21 else if iA' (entD B en).params.length (entD B en).indices.length en y (cx.length:Int) = false then .error 20 else fV' B en (ys.drop (i + 1)) (cx ++ [(y,none)]) q.2:=hr
   rw [hlev] at hr;have h42:=h41.kp k2 (by simp at hb4n ⊢; exact hb4n.1);have hTu2:TmV (Im X w2) y (.slice au (row y).length cu):=hTu.mono (Im.kb k2 hbl);have hT2:=hT1.kb k2 hbl hne;have hX2:=xU hX k02;have up2:=fun b o v (h:Im X w b o v)=>Im.kp (Y:=[bl,bt]) (X:=X) k02 (fun y hy _=>by simp at hy; rcases hy with rfl | rfl <;> assumption) h;obtain ⟨v1,v2,v3,hl2,hO,hE,hP⟩:=id hL2;obtain ⟨vcx,ht2,hcx2⟩:=id hT2;obtain ⟨ao,co,rfl,ho1,_⟩:=id hO;refine aw' τok (fun z=>Kp [] w2 z) ?_;refine rV τok (rg 0 19) 3 (mR 22 19) (kQd w2) ?_;refine lk ht2 ?_;refine lk hl2 ?_;refine lk ht2 ?_;refine lk hl2 ?_;refine lk h42 ?_;refine nV τok 19 2 (mR 22 20) ?_;refine ab' (qT' (w:=(dr w2)) (C:=Im X w2) (Im.sub X w2) hs hs2 (s1.mono up2)) ?_;rintro e w3 ⟨ab,cb,rfl,hab,hk3⟩;have hk3:Kp [] w2 w3:=hk3.rd;refine ⟨.inl hk3,?_⟩;refine nV τok 20 1 (mR 22 21) ?_;have hS3:Sub (Im X w2) w3:=(Im.sub X w2).tr hk3;refine ab' (jI' B.vars B.orders q.1.2 (cA' s) ao al ab co cl cb w3 (Sl.ordV ho1 hS3) (Go.Proofs.YtdfmgkaecdkhnaaGreat.Sl.atoms hal hS3) (Go.Proofs.YtdfmgkaecdkhnaaGreat.Sl.atoms hab fun _ _ _ h=>h.2.cl)) ?_;rintro e w4 ⟨rfl,hk4⟩;have k24:=hk3.tr hk4;refine ⟨.inl k24,?_⟩;refine rV τok [21] 0 (mR 22 22) k24 ?_;refine dV ?_;have k04:Kp [bl,bt] w w4:=k02.tr k24;have hL4:=hL2.tr k24;have hT4':=hT2.tr k24;have hTu4:TmV (Im X w4) y (.slice au (row y).length cu):=hTu2.mono fun _ _ _ h=>h.tr k24;obtain ⟨vcx4,ht4',hcx4⟩:=id hT4';refine br (fun cz=>?_) (fun cz=>?_)
   ·have cz:dH' B.vars B.orders q.1.2 (cA' s) = false:=by simpa using cz
    rw [if_pos cz] at hr;subst hr;refine lb ht4' ?_;refine ab' (gK' hL4 hbl 21 (by decide)) ?_;rintro e w5 ⟨rfl,hL5,k5⟩;exact ⟨⟨rfl,by decide,hL5⟩,k04.trans k5 fun x hx _=>by simp at hx; simp [hx]⟩
   have cu':¬ dH' B.vars B.orders q.1.2 (cA' s) = false:=by simpa using cz
   rw [if_neg cu'] at hr;obtain ⟨v1',v2',v3',hl4,hO4,hE4,hP4⟩:=id hL4;obtain ⟨acx,ccx,rfl,_,_⟩:=id hcx4;have hcxm:(cx.map bdR).length = cx.length:=by simp
   refine aw' τok (fun z=>Kp [] w4 z) ?_;refine rV τok (rg 0 20) 2 (mR 22 20) (kQd w4) ?_;refine lk ht4' ?_;refine dG' [iV B.vars,v1',v2',iV B.nat,v3'] rfl (fun j u hj=>by
    refine hl4.cl ?_;rw [KW]
    match j,hj with
    | 0,hj=>exact hj
    | 1,hj=>exact hj
    | 2,hj=>exact hj
    | 3,hj=>exact hj
    | 4,hj=>exact hj
    | j + 5,hj=>cases hj) ?_
   refine lk ht4' ?_;refine lk hl4 ?_;refine lk ht4' ?_;refine nV τok 20 1 (mR 22 21) ?_;rw [hcxm];refine ab' (qO' (w:=(dr w4)) (C:=Im X w4) (B:=B) (e:=en) (x:=y) (ar:=(cx.length:Int)) (Im.sub X w4) (fun _ _ _ h=>h.hold) ⟨v1',v2',v3',rfl,hO4,hE4,hP4⟩ ⟨hen.1,hen.2,hB.len⟩ hyF.ok hyF.len hTu4 (by omega) hnp) ?_;rintro e w5 ⟨rfl,hk5⟩;have hk5:Kp [] w4 w5:=hk5.rd;refine ⟨.inl hk5,?_⟩;refine rV τok [21] 0 (mR 22 22) hk5 ?_;refine dV ?_;have k05:Kp [bl,bt] w w5:=k04.tr hk5;have hL5:=hL4.tr hk5;have hT5:=hT4'.tr hk5;have hTu5:TmV (Im X w5) y (.slice au (row y).length cu):=hTu4.mono fun _ _ _ h=>h.tr hk5;refine br (fun cw=>?_) (fun cw=>?_)
   ·have cw:iA' (entD B en).params.length (entD B en).indices.length en y (cx.length:Int) = false:=by simpa using cw
    rw [if_pos cw] at hr;subst hr;obtain ⟨vcx5,ht5,_⟩:=id hT5;refine lb ht5 ?_;refine ab' (gK' hL5 hbl 20 (by decide)) ?_;rintro e w6 ⟨rfl,hL6,k6⟩;exact ⟨⟨rfl,by decide,hL6⟩,k05.trans k6 fun x hx _=>by simp at hx; simp [hx]⟩
   have cw':¬ iA' (entD B en).params.length (entD B en).indices.length en y (cx.length:Int) = false:=by simpa using cw
   rw [if_neg cw'] at hr;obtain ⟨vc1,ht1,hc1⟩:=hT5;have hXz:∀ b ∈ X,b < (w5).heap.size:=fun b hb=>KZ (hX b hb) (k05).size;obtain ⟨ac1,cc1,rfl,hc1a,hc1b⟩:=id hc1;refine lb ht1 ?_;refine ab' (jP' (R:=rBd) rfl (C:=Im X w5) _ ac1 cc1 hc1a hc1b) ?_;rintro r wp1 ⟨⟨a1,rfl,hcl1⟩,kp1⟩;refine fill [.slice au (row y).length cu,.slice none 0 0] rfl ?_;refine new fun bp wp2 hbp hP2 hsp2 kp2=>?_;have hP2:Bk wp2.heap bp [.slice au (row y).length cu,.slice none 0 0] 100:=hP2;have kz2:=kp1.tr kp2;have hbpX:bp ∉ X:=fun h=>by
    have:=hXz bp h;have:=kp1.size;have hbp:bp = wp1.heap.size:=hbp;omega
   have hX2:=xU hXz kz2;refine nz' τok rfl rfl (by decide) (R:=rBd) (C:=Im X wp2) (l:=cx.map bdR) (m:=[(row y,[])]) (Im.sub X wp2) (hcl1.mono fun _ _ _ h=>h.tr kz2) (tG' hP2 hbpX (TmV.mono hTu5 fun _ _ _ h=>h.tr kz2)) (by simp) (by simp; omega) (by simp [maxLen]; omega) (by simp; omega) fun vn wp3 hvn kp3=>?_;have hvn1:=hvn.one;have kz3:=kz2.tr kp3;refine st (b:=bt) (o:=1) (ht1.kp kz3 (by simp)) (by simp) hvn1 fun wp4 ht4 hsp4 kp4=>?_;have ht4:Bk wp4.heap bt [pt bl,vn] 71:=ht4;have kz4:Kp [bt] w5 wp4:=(kz3.weak (by simp)).tq kp4;have hT4:TlC (Im X wp4) wp4 bt bl (cx ++ [(y,none)]):=⟨vn,ht4,by
    rw [nU'];exact (hvn.mono fun _ _ _ h=>Cn.im hX2 (kp3.weak (by simp)) h).mono (Im.kb kp4 hbt)⟩
   have k06:Kp [bl,bt] w wp4:=k05.trans kz4 fun x hx _=>by simp at hx; simp [hx]
   have hL6:=(hL5.mono (Im.kb kz4 hbt)).kp kz4 (by simpa using Ne.symm hne);have kb6:Kp [bl,bt] wb wp4:=(((kb1.trans k2 fun x hx _=>by simp at hx; simp [hx]).tr k24).tr hk5).trans kz4 fun x hx _=>by simp at hx; simp [hx]
   refine i6 ?_;exact ⟨(i + 1,cx ++ [(y,none)],q.2),by simp only; omega,rfl,⟨rfl,rfl,rfl,rfl,rfl,trivial⟩,hlt,hr,hcx.snoc hyF (by simp),by simp; omega,hL6,hT4,kb6⟩
 ·have c:¬ (i:Int) < ys.length:=c
  rw [JY (by omega)] at hr;subst hr;exact ⟨⟨rfl,hL1,hT1⟩,k1⟩
end
theorem lF' {Q:Nd -> Prop} (hQ:Qk Q) {N:Nat} {go:List Tr} (hN:N <= 100) (hgo:∀ y ∈ go,Ft Q (N:Int) y):∀ (m:Nat) (t z:Tr),m <= go.length -> m <= 16 -> Ft Q ((N + m:Nat):Int) t -> eh' go m t = .ok z -> Ft Q (N:Int) z
 | 0,t,z,_,_,ht,h=>by
  simp only [eh',Except.ok.injEq] at h;subst h;exact ht
 | m + 1,t,z,hm,hm',ht,h=>by
  simp only [eh'] at h;obtain ⟨y,hy,_⟩:=af' (l:=go) (k:=m) (by omega);have hyD:go.getD m (varX 0) = y:=by simp [hy]
  rw [hyD] at h;have hF:=hgo y (JQ hy);have hFl:Ft Q ((N + m:Nat):Int) (al' y (m:Int) 0):=by
   have:=hF.lift hQ (by omega) (b:=(m:Int)) (by omega) (by omega)
   rwa [show (N:Int) + (m:Int) = ((N + m:Nat):Int) by omega] at this
  cases hs:aA' t (al' y (m:Int) 0) 0 with
  | error e=>rw [hs] at h; cases h
  | ok t' =>
   rw [hs] at h;have hF':=aR' hQ (N:=((N + m:Nat):Int)) (v:=0) (ht.mono (by omega)) hFl (by omega) (by omega) (by omega) (by omega) hs;rw [Int.add_zero] at hF';exact lF' hQ hN hgo m t' z (by omega) (by omega) hF' h
theorem sR' {Q:Nd -> Prop} (hQ:Qk Q) {np:Nat} {qi go:List Tr} {na j:Nat} (hnp:np <= 16) (hna:na <= 16) (hqi:∀ (k:Nat) y,qi[k]? = some y -> Ft Q ((np + k:Nat):Int) y) (hgo:∀ y ∈ go,Ft Q ((np + na:Nat):Int) y) (hql:qi.length <= 16) (hlo:go.length = qi.length) (hj:j < qi.length) {z:Tr} (h:io' qi go na j = .ok z):Ft Q ((np + na:Nat):Int) z:=by
 unfold io' at h;obtain ⟨y,hy,_⟩:=af' hj;have hyD:qi.getD j (varX 0) = y:=by simp [hy]
 rw [hyD] at h;refine lF' hQ (N:=np + na) (by omega) hgo j _ z (by omega) (by omega) ?_ h;have:=(hqi j y hy).liftF hQ (by omega) (b:=(na:Int)) (f:=(j:Int)) (by omega) (by omega)
 rwa [show ((np + j:Nat):Int) + (na:Int) = ((np + na + j:Nat):Int) by omega] at this
section
variable {w:World} {bl bt:Nat} {B:BoT} {en:Int} {X:List Nat}
theorem uQ' (hB:GoodB B) {cx:Ctx} {n0:Nat} (hcx:CxOk B cx) (hX:XL X w) (hbl:bl ∈ X) (hbt:bt ∈ X) (hne:bt ≠ bl) (hL:LkC (Im X w) w bl B en n0 0) (hT:TlC (Im X w) w bt bl cx)
  {qi ga go:List Tr} {np:Nat} (hcxl:cx.length = np + ga.length) (hnp:np <= 16) (hna:ga.length <= 16) (hqi:∀ (k:Nat) y,qi[k]? = some y -> Ft (QB B) ((np + k:Nat):Int) y) (hgo:∀ y ∈ go,Ft (QB B) ((np + ga.length:Nat):Int) y) (hql:qi.length <= 16) (hlo:go.length = qi.length)
  (hei:(entD B en).indices = qi.map row) (hqM:qiM B en = qi) {c:CtT} (hca:c.args = ga.map row) (hco:c.out = go.map row) {ve vc:Value} (hve:EnV (Im X w) (entD B en) ve) (hvc:CtV (Im X w) c vc) :
  CC 28 #[pt bt,ve,vc] w (fun e w'=>mA' (oD' B en go ga.length cx go 0 n0) (fun q=>e = .returned (.bool true) /\ LkC (Im X w') w' bl B en q.2 0) (fun e'=>e = .returned (.bool false) /\ e' ≠ 0 /\ LkC (Im X w') w' bl B en 0 e') /\ Kp [bl] w w'):=by
 refine oF Tryz.func28 ?_;obtain ⟨RES,hRES⟩:∃ r,oD' B en go ga.length cx go 0 n0 = r:=⟨_,rfl⟩
 rw [hRES];have hve':=hve;have hvc':=hvc;obtain ⟨u1,u2,u3,u4,u5,u6,rfl,s1,s2,s3,s4,s5,s6⟩:=hve;obtain ⟨va,vo,rfl,hva,hvo⟩:=hvc;rw [hco] at hvo;have hvo:=TmsV.sv.2 hvo;have hvv:=hvo;obtain ⟨av,cv,rfl,_,_⟩:=hvo;refine cO (args:=[_,_,_]) 78 [.tmp 6] τok Tryz.func28 ?_;refine new fun b4 wa hb4 h4 hsa hka=>?_;have h4:Bk wa.heap b4 [iV (entD B en).kind,u1,u2,u3,u4,u5,u6] 40:=h4;refine new fun b5 wb hb5 h5 hsb hkb=>?_;have h5:Bk wb.heap b5 [va,.slice av go.length cv] 47:=h5;have k0b:=hka.tr hkb;have h4:=h4.kp hkb (by simp);have hbn:b4 ∉ [bl] /\ b5 ∉ [bl]:=by
  have:=hX bl hbl;have hb4:b4 = w.heap.size:=hb4;have hb5:b5 = wa.heap.size:=hb5;simp;omega
 refine lb h5 ?_;refine loop τok (σ:=Nat × Nat) (fun q=>[(0,pt bt),(4,pt b4),(5,pt b5),(12,.slice av go.length cv),(13,iV (go.length:Int)),(14,iV (q.1:Int))])
  (fun q w'=>q.1 <= go.length /\ RES = oD' B en go ga.length cx (go.drop q.1) q.1 q.2 /\ LkC (Im X w') w' bl B en q.2 0 /\ Kp [bl] wb w') (fun q=>go.length - q.1) (0,n0) ⟨rfl,rfl,rfl,rfl,rfl,rfl,trivial⟩
  ⟨KV _,hRES.symm,hL.tr k0b,Kp.refl _ _⟩ ?_
 rintro ⟨j,n⟩ w1 ⟨hj,hr,hL1,kb1⟩;simp only at hj hr hL1;have k1:Kp [bl] w w1:=(k0b.weak (by simp)).tq kb1;refine ac' (fun c=>?_) (fun c=>?_)
 ·have hlt:j < go.length:=by
   have:(j:Int) < go.length:=c;omega
  obtain ⟨y,hy,hd⟩:=af' hlt;rw [hd] at hr;simp only [oD'] at hr;have hyF:=hgo y (JQ hy);have hT1:=hT.kb k1 hbl hne;have up:=fun b o v (h:Im X w b o v)=>Im.kb k1 hbl b o v h;have hX1:=xU hX k1;obtain ⟨b,o,cc,e1,u,hcu,hTu⟩:=(hvv.mono up).get hy;injection e1 with e1 _ e2
  subst e1 e2;obtain ⟨au,cu,rfl,_,_⟩:=id hTu;have h41:=h4.kp kb1 hbn.1;have h51:=h5.kp kb1 hbn.2;obtain ⟨v1,v2,v3,hl1,hO,hE,hP⟩:=id hL1;obtain ⟨vcx,ht1,hcx1⟩:=id hT1;refine ix j rfl hlt ?_;refine ld (Cl.cell hcu.1) ?_;refine lb ht1 ?_;refine lb hl1 ?_;refine ab' (ey' (C:=Im X w1) (Im.sub X w1) (TmV.sv.1 hTu) en) ?_;rintro e w2 ⟨rfl,k12⟩;have k2:Kp [bl] w w2:=k1.tr k12;have hL2:=hL1.tr k12;have ht2:=ht1.kp k12 (by simp);cases hnm:cR' (row y) en with
  | true =>
   rw [if_pos hnm] at hr;subst hr;refine lb ht2 ?_;refine ab' (gK' hL2 hbl 20 (by decide)) ?_;rintro e w3 ⟨rfl,hL3,k3⟩;exact ⟨⟨rfl,by decide,hL3⟩,k2.tq k3⟩
  | false =>
  rw [if_neg (by simp [hnm]),hqM] at hr;have kb2:=kb1.tr k12;have h42:=h4.kp kb2 hbn.1;have h52:=h5.kp kb2 hbn.2;have hX2:=xU hX k2;have up2:=fun b o v (h:Im X w b o v)=>Im.kb k2 hbl b o v h;refine ldN [iV (entD B en).kind,u1,u2,u3,u4,u5,u6] rfl (bZ h42) ?_;refine ldN [va,.slice (some ⟨b,o,none⟩) go.length cv] rfl (bZ h52) ?_;refine ab' (uP' (C:=Im X w2) (Im.sub X w2) (fun _ _ _ h=>h.hold) (B:=B) (np:=np) hei hca hco hnp hna hqi hgo hql hlo (hve'.mono up2) (hvc'.mono up2) (j:=j) (by omega)) ?_;rintro e w3 ⟨he,k23⟩;have k3:Kp [bl] w w3:=k2.tr k23;have hL3:=hL2.tr k23;have hT3:=(hT1.tr k12).tr k23;obtain ⟨vcx3,ht3,hcx3⟩:=id hT3;cases hm:io' qi go ga.length j with
  | error e' =>
   rw [hm] at he hr;obtain ⟨rfl,he'⟩:=he;have hr:RES = .error e':=hr;subst hr;refine au' (p:=e' ≠ 0) he' ?_;refine lb ht3 ?_;refine ab' (gK' hL3 hbl e' he') ?_;rintro e w4 ⟨rfl,hL4,k4⟩;exact ⟨⟨rfl,he',hL4⟩,k3.tq k4⟩
  | ok want =>
   rw [hm] at he hr;obtain ⟨uw,rfl,huw⟩:=he;have hr:RES = bdJ (bv' B cx y want (n:Int)) fun _ n=>oD' B en go ga.length cx (go.drop (j + 1)) (j + 1) n:=hr;have hwF:=sR' (qk B) hnp hna hqi hgo hql hlo (by omega) hm;have hTw:TmV (Im X w3) want uw:=huw.mono fun _ _ _ h=>Cn.im hX2 (k23.weak (by simp)) h;have hTu3:TmV (Im X w3) y (.slice au (row y).length cu):=(hTu.mono fun _ _ _ h=>h.tr k12).mono fun _ _ _ h=>h.tr k23;obtain ⟨aw,cw,rfl,_,_⟩:=id hTw;obtain ⟨v1',v2',v3',hl3,hO3,hE3,hP3⟩:=id hL3;obtain ⟨acx,ccx,rfl,_,_⟩:=id hcx3;have hX3:=xU hX k3;refine aw' τok (fun z=>Kp [] w3 z) ?_;refine rV τok (rg 0 24) 5 (mR 29 24) (kQd w3) ?_;refine lk ht3 ?_;refine lk ht3 ?_;refine dG' [iV B.vars,v1',v2',iV B.nat,v3'] rfl (fun j u hj=>by
    refine hl3.cl ?_;rw [KW]
    match j,hj with
    | 0,hj=>exact hj
    | 1,hj=>exact hj
    | 2,hj=>exact hj
    | 3,hj=>exact hj
    | 4,hj=>exact hj
    | j + 5,hj=>cases hj) ?_
   refine lk ht3 ?_;refine lk ht3 ?_;refine lk hl3 ?_;refine nV τok 24 4 (mR 29 25) ?_;have hyF':Ft (QB B) (cx.length:Int) y:=by rw [hcxl]; exact hyF
   have hwF':Ft (QB B) (cx.length:Int) want:=by rw [hcxl]; exact hwF
   refine ab' (sF' (w:=(dr w3)) (X:=X) (fuel:=(n:Int)) hB hcx (by omega) hX3 hyF' hwF' ⟨v1',v2',v3',rfl,hO3,hE3,hP3⟩ hcx3 hTu3 hTw) ?_;rintro e w4 ⟨he,hk4⟩;have hk4:Kp [] w3 w4:=hk4.rd;have hL4:=hL3.tr hk4;have k4:Kp [bl] w w4:=k3.tr hk4;cases hc:bv' B cx y want (n:Int) with
   | error e' =>
    rw [hc] at he hr;have hr:RES = .error e':=hr;subst hr;obtain rfl:=he;have he':e' ≠ 0:=ec' (bS' hB GJ) hc;refine ⟨.inl hk4,?_⟩;refine rV τok [25,26] 2 (mR 29 27) hk4 ?_;refine nV τok 27 1 (mR 29 28) ?_;refine ab' (ip' hL4 hbl 0 e') ?_;rintro r w5 ⟨rfl,hL5,k5⟩;refine ⟨.inr (by kernel_rfl),?_⟩;refine nV τok 28 0 (mR 29 29) ?_;refine ⟨.inr (by kernel_rfl),?_⟩;refine dV ?_;refine eG' (fun h=>absurd h he') (fun _=>?_);exact ⟨⟨rfl,he',hL5⟩,k4.tq k5⟩
   | ok q =>
    rw [hc] at he hr;have hr:RES = oD' B en go ga.length cx (go.drop (j + 1)) (j + 1) q.2:=hr;obtain rfl:=he;refine ⟨.inl hk4,?_⟩;refine rV τok [25,26] 2 (mR 29 27) hk4 ?_;refine nV τok 27 1 (mR 29 28) ?_;refine ab' (ip' hL4 hbl q.2 0) ?_;rintro r w5 ⟨rfl,hL5,k5⟩;refine ⟨.inr (by kernel_rfl),?_⟩;refine nV τok 28 0 (mR 29 29) ?_;refine ⟨.inr (by kernel_rfl),?_⟩;refine dV ?_;refine i6 ?_;exact ⟨(j + 1,q.2),by simp only; omega,rfl,⟨rfl,rfl,rfl,rfl,rfl,rfl,trivial⟩,hlt,hr,hL5,((kb2.tr k23).tr hk4).tq k5⟩
 ·have c:¬ (j:Int) < go.length:=c
  rw [JY (by omega)] at hr;subst hr;exact ⟨⟨rfl,hL1⟩,k1⟩
end
end Go.Proofs.YtdfmgkaecdkhnaaGreat
