import Derived.Test.YtmlnlmkmpgkekaaGreatMy24
set_option linter.unusedVariables false
set_option linter.unusedSimpArgs false
set_option maxRecDepth 100000
set_option maxHeartbeats 4000000
namespace Go.Proofs.YtmlnlmkmpgkekaaGreat
open Go.Wx Cd Tm Lv
def Fue {α:Type} (F:Nat -> Except Int (α × Nat)):Prop:=∀ n a n',n <= 100000 -> F n = .ok (a,n') -> n' <= n /\ ∀ m,m <= 100000 -> (n - n' <= m -> F m = .ok (a,m - (n - n'))) /\ (m < n - n' -> F m = .error 10)
section
variable {B:BoT}
abbrev RcFu (rc:RcC):Prop:=∀ cx x y u,Fue (rc cx x y u)
abbrev RjFu (rc:RcJ):Prop:=∀ cx t,Fue (rc cx t)
variable {rc:RcJ} (hr:RjFu rc)
include hr
end
section
variable {B:BoT}
end
theorem mb' (w:World) (a:Option Addr) (c:Nat) (f:Value) :
  CC 108 #[.slice a 0 c,f] w (fun e w'=>e = .returned (iV (-1)) /\ Kp [] w w'):=by
 refine oF Tryz.func108 ?_;refine cO (args:=[_,_]) 19 [.tmp 4] τok Tryz.func108 ?_;refine lp τok (σ:=Unit) (fun _=>[(7,iV 0),(8,iV 0)]) (fun _ w'=>w' = w) (fun _=>0) () rfl ⟨rfl,rfl,trivial⟩ rfl ?_;rintro _ w1 rfl;exact ⟨rfl,Kp.refl _ _⟩
theorem hQ' (w:World) (a:Option Addr) (c:Nat) (f:Value) :
  CC 61 #[.slice a 0 c,f] w (fun e w'=>e = .returned (.bool false) /\ Kp [] w w'):=by
 refine oF Tryz.func61 ?_;refine cO (args:=[_,_]) 9 [.tmp 4] τok Tryz.func61 ?_;refine ab' (mb' w a c f) ?_;rintro e w1 ⟨rfl,hk⟩;exact ⟨rfl,hk⟩
theorem mc' (w:World) (a a':Option Addr) (c c':Nat) (f:Value) :
  CC 112 #[.slice a 0 c,.slice a' 0 c',f] w (fun e w'=>e = .returned (.bool true) /\ Kp [] w w'):=by
 refine oF Tryz.func112 ?_;refine cO (args:=[_,_,_]) 32 [.tmp 6] τok Tryz.func112 ?_;refine lp τok (σ:=Unit) (fun _=>[(16,iV 0),(17,iV 0)]) (fun _ w'=>w' = w) (fun _=>0) () rfl ⟨rfl,rfl,trivial⟩ rfl ?_;rintro _ w1 rfl;exact ⟨rfl,Kp.refl _ _⟩
abbrev inV (f:Int) (a:Option Addr) (c:Nat):Value:=.agg #[iV f,.slice a 0 c]
theorem md' (w:World) (f g:Int) (a a':Option Addr) (c c':Nat) :
  CC 65 #[inV f a c,inV g a' c'] w (fun e w'=>e = .returned (.bool (decide (f = g))) /\ Kp [] w w'):=by
 refine oF Tryz.func65 ?_;refine cO (args:=[_,_]) 17 [.tmp 4] τok Tryz.func65 ?_;refine new fun b2 w1 hb2 h2 hs1 hk1=>?_;refine new fun b3 w2 hb3 h3 hs2 hk2=>?_;have h2:Bk w1.heap b2 [iV f,.slice a 0 c] 75:=h2;have h3:Bk w2.heap b3 [iV g,.slice a' 0 c'] 75:=h3;have h2:=h2.kp hk2 (by simp);refine lb h2 ?_;refine lb h3 ?_;refine ac' (fun e=>?_) (fun e=>?_)
 ·have e:f = g:=e
  refine lb h2 ?_;refine lb h3 ?_;refine ab' (mc' w2 a a' c c' _) ?_;rintro r w3 ⟨rfl,hk3⟩;rw [decide_eq_true e];exact ⟨rfl,(hk1.tr hk2).tr hk3⟩
 ·have e:¬ f = g:=e
  rw [decide_eq_false e];exact ⟨rfl,hk1.tr hk2⟩
def rIn:Rd Int where
 sz:=2
 den C cs x:=∃ a c,cs = [iV x,.slice a 0 c] /\ I64 x
 len:=by rintro C cs x ⟨a,c,rfl,_⟩; rfl
 mono:=by rintro C C' cs x _ h; exact h
 one:=by rintro C cs x ⟨a,c,rfl,_⟩ u hu; simp at hu; rcases hu with rfl | rfl <;> rfl
section
variable {C:Mem} {w:World}
theorem nY' (hS:Sub C w) (l:List Int) (a:Option Addr) (c:Nat) (hl:Sl rIn C a l) (hlen:l.length <= 1000) (f:Int) (a0:Option Addr) (c0:Nat) :
  CC 111 #[.slice a l.length c,.func (.func 65) #[inV f a0 c0] #[]] w (fun e w'=>(∃ i:Int,e = .returned (iV i) /\ (0 <= i ↔ f ∈ l)) /\ Kp [] w w'):=by
 refine oF Tryz.func111 ?_;refine cO (args:=[_,_]) 19 [.tmp 4] τok Tryz.func111 ?_;refine lp τok (σ:=Nat) (fun k=>[(0,.slice a l.length c),(1,.func (.func 65) #[inV f a0 c0] #[]),(7,iV (l.length:Int)),(8,iV (k:Int))]) (fun k w'=>k <= l.length /\ (f ∈ l ↔ f ∈ l.drop k) /\ Kp [] w w') (fun k=>l.length - k) 0 rfl ⟨rfl,rfl,rfl,rfl,trivial⟩ ⟨KV _,by simp,Kp.refl _ _⟩ ?_;rintro k w1 ⟨hk,hm,hk1⟩;refine ac' (fun g=>?_) (fun g=>?_)
 ·have g:(k:Int) < (l.length:Int):=g
  obtain ⟨x,hx,hd⟩:=af' (l:=l) (k:=k) (by omega);obtain ⟨b,o,rfl,hc⟩:=hl.at (by omega:k < l.length)
  obtain ⟨cs,⟨ax,cx,rfl,_⟩,hcs⟩:=hc k x hx;refine ix k rfl (by omega) ?_;refine ldN [iV x,.slice ax 0 cx] rfl (fun j v hj=>(hS.tr hk1) _ _ _ (hcs j v hj)) ?_;refine ab' (md' w1 f x a0 ax c0 cx) ?_;rintro e w2 ⟨rfl,hk2⟩;refine ac' (fun e=>?_) (fun e=>?_)
  ·have e:f = x:=e
   refine ⟨⟨(k:Int),rfl,?_⟩,hk1.tr hk2⟩;rw [hm,hd,e];simp
  ·have e:¬ f = x:=e
   refine i6 ?_;refine ⟨k + 1,by omega,rfl,⟨rfl,rfl,rfl,rfl,trivial⟩,by omega,?_,hk1.tr hk2⟩;rw [hm,hd];simp [e]
 ·have g:¬ (k:Int) < (l.length:Int):=g
  refine ⟨⟨-1,rfl,?_⟩,hk1⟩;rw [hm,JY (by omega)];simp
theorem jD' (hS:Sub C w) (l:List Int) (a:Option Addr) (c:Nat) (hl:Sl rIn C a l) (hlen:l.length <= 1000) (f:Int) (a0:Option Addr) (c0:Nat) :
  CC 64 #[.slice a l.length c,.func (.func 65) #[inV f a0 c0] #[]] w (fun e w'=>e = .returned (.bool (decide (f ∈ l))) /\ Kp [] w w'):=by
 refine oF Tryz.func64 ?_;refine cO (args:=[_,_]) 9 [.tmp 4] τok Tryz.func64 ?_;refine ab' (nY' hS l a c hl hlen f a0 c0) ?_;rintro e w1 ⟨⟨i,rfl,hi⟩,hk⟩;rw [show decide (f ∈ l) = decide (0 <= i) from decide_eq_decide.2 hi.symm];exact ⟨rfl,hk⟩
end
section
variable {B:BoT} {X:List Nat} {w:World} {be:Nat} {n:Nat} {va:Value}
theorem qA' (hB:GoodB B) (hX:XL X w) (hbe:be ∈ X) (hJ:EraC (Im X w) w be B n va) {N:Int} {t:Tr} (ht:Ft (QB B) N t) (h9:(headT t).n.op = 9) (hfam:dy' B B.ents.length (headT t).n.a = true) (hps:(bm' B (headT t).n.a).params = []) (hqi:(bm' B (headT t).n.a).indices = []) (hag:argsT t = []) {v:Value} (hv:TmV (Im X w) t v) :
  CC 32 #[pt be,v] w (fun e w'=>(∃ a c,e = .returned (.tuple #[inV (headT t).n.a a c,.bool true])) /\ Kp [] w w'):=by
 refine oF Tryz.func32 ?_;obtain ⟨v1,v2,v3,hJb,hO,hE,hP⟩:=id hJ;have htl:=ht.len;have hhF:=ht.head;obtain ⟨hd,hhd⟩:∃ hd,(headT t).n = hd:=⟨_,rfl⟩
 rw [hhd] at h9 hfam hps hqi ⊢;obtain ⟨i,x,s,ps,qi,hia,_,hi0,hxD,hF⟩:=hB.fam hfam (KJ _);rw [hxD] at hps hqi;obtain ⟨av,cv,rfl,hsv,hcv⟩:=id hv;refine cO (args:=[_,_]) 59 [.cell 4 75,.tmp 5] τok Tryz.func32 ?_;refine new fun b4 w0 hb4 h4 hs0 hk0=>?_;refine ab' (gF' ((Im.sub X w).tr hk0) (fun _ _ _ h=>KZ h.hold hk0.size) t ht.ok av cv hsv hcv htl) ?_;rintro e w1 ⟨⟨vh,vg,rfl,hh,hgs⟩,hk1⟩;have hX0:=xU hX hk0;have hh:=hh.tv hX0;have hgs:=hgs.tv hX0;obtain ⟨bt,ot,ct,rfl,hi1,hi2,hi3,hhc⟩:=hh.hd;rw [hhd] at hi1 hi2 hi3 hhc;rw [hag] at hgs;obtain ⟨ag,cg,rfl,_,_⟩:=id hgs;refine ix 0 rfl (ag' _) ?_;refine ld (Im.sub X w1 _ _ _ (by simpa using hhc 0 _ rfl)).cell ?_;refine bE' (p:=hd.op ≠ 9) (by omega) ?_;obtain ⟨be',oe,ce,rfl,hat⟩:=hE.at hi0;obtain ⟨w1e,w2e,w3e,w4e,w5e,w6e,hcs,hki,hso,hpa,hin,hct,hty,hbo⟩:=cW' hat;have hone:∀ v ∈ [iV x.kind,w1e,w2e,w3e,w4e,w5e,w6e],v.oneCell' = true:=fun v hv=>by
  simp at hv;rcases hv with rfl | rfl | rfl | rfl | rfl | rfl | rfl
  ·rfl
  ·exact hso.one
  ·exact hpa.one
  ·exact hin.one
  ·exact hct.one
  ·exact hty.one
  ·exact hbo.one
 rw [hps] at hpa;rw [hqi] at hin;obtain ⟨ap,cp,rfl,_,_⟩:=id hpa;obtain ⟨ai,ci,rfl,_,_⟩:=id hin;have k01:=hk0.tr hk1;have hJ1:=hJb.kp k01 (by simp);refine aq' τok (fun z=>Kp [] w1 z) ?_;refine rV τok (rg 0 11) 2 (mR 13 11) (kQd w1) ?_;refine lk hJ1 ?_;refine ix 0 rfl (ag' _) ?_;refine ldK (by simpa using hhc 1 _ rfl:Im X w1 bt (ot + 0 * 3 + 1) (iV hd.a)).1 ?_;refine ix i hia (ai' hi0) ?_;refine cB' [iV x.kind,w1e,.slice ap 0 cp,.slice ai 0 ci,w4e,w5e,w6e] rfl (fun j v hj=>(hcs j v hj).1.kp k01 (by simp)) ?_;refine nV τok 11 1 (mR 13 12) ?_;refine new fun b8 w2 hb8 h8 hs2 hk2=>?_;have hk2:Kp [] w1 w2:=hk2.rd;refine ⟨.inl hk2,?_⟩;refine nV τok 12 0 (mR 13 13) ?_;refine stN (vs:=[iV x.kind,w1e,.slice ap 0 cp,.slice ai 0 ci,w4e,w5e,w6e]) h8 rfl hone fun w3 h8 hs3 hk3=>?_;refine ⟨.inr (by kernel_rfl),?_⟩;refine dV ?_;have k13:=hk2.newSt hb8 hk3;have h8:Bk w3.heap b8 [iV x.kind,w1e,.slice ap 0 cp,.slice ai 0 ci,w4e,w5e,w6e] 72:=h8;refine lb h8 ?_;refine lb h8 ?_;refine ot' (by decide) (by decide) ?_;refine lb h8 ?_;obtain ⟨a7,c7,e7⟩:∃ a c,sliced ag 0 0 cg 1 = .slice a 0 c:=⟨_,_,rfl⟩
 refine iJ' τok rfl 0 (.slice a7 0 c7) rfl (KV _) e7 ?_;refine ab' (hQ' w3 a7 c7 _) ?_;rintro e w4 ⟨rfl,hk4⟩;have k14:=k13.tr hk4;refine ix 0 rfl (ag' _) ?_;refine ld ((by simpa using hhc 1 _ rfl:Im X w1 bt (ot + 0 * 3 + 1) (iV hd.a)).1.kp k14 (by simp)).cell ?_;refine stN (vs:=[iV hd.a,.slice a7 0 c7]) (h4.kp (hk1.tr k14) (by simp)) rfl (by simp [Value.oneCell']) fun w5 hA hsA hkA=>?_;refine ll' τok rfl [iV hd.a,.slice a7 0 c7] rfl (fun j v hj=>by have:=hA.cl hj; exact this) ?_;refine ⟨⟨a7,c7,rfl⟩,(hk0.tr (hk1.tr k14)).trans hkA fun x hx hl=>?_⟩;simp only [JJ,JZ,or_false] at hx;omega
end
abbrev RcP:=Int -> Nat -> Option (Bool × Nat)
def st' (B:BoT) (t:Tr):Bool:=decide ((headT t).n.op = 9) && (dy' B B.ents.length (headT t).n.a && ((bm' B (headT t).n.a).params.isEmpty && ((bm' B (headT t).n.a).indices.isEmpty && (argsT t).isEmpty)))
def kY' (B:BoT) (rc:RcP):Ctx -> List (Tr × Bool) -> Nat -> Option (Bool × Nat)
 | _,[],n=>some (true,n)
 | cx,q :: r,n=>if q.2 = true then
   match dj' B cx q.1 n with
   | .error _=>none
   | .ok p=>if st' B p.1 = true then (rc (headT p.1).n.a p.2).bind fun z=>if 100000 < z.2 then none else if z.1 = true then kY' B rc (cx ++ [(q.1,none)]) r z.2 else some (false,z.2) else none
  else kY' B rc (cx ++ [(q.1,none)]) r n
def uz' (B:BoT) (rc:RcP) (f k:Int) (n:Nat):Option (Bool × Nat) :=
 match kS' B f k n with
 | .error _=>none
 | .ok q=>kY' B rc [] ((agM B f k).zip q.1) q.2
def kZ' (B:BoT) (rc:RcP) (f:Int):List Nat -> Nat -> Option (Bool × Nat)
 | [],n=>some (true,n)
 | k :: r,n=>(uz' B rc f (k:Int) n).bind fun z=>if 100000 < z.2 then none else if z.1 = true then kZ' B rc f r z.2 else some (false,z.2)
def iB' (B:BoT):Nat -> List Int -> RcP
 | 0,_,_,_=>none
 | g + 1,aq,f,n=>if f ∈ aq then some (true,n) else if n = 0 then none else if (dy' B B.ents.length f && (bm' B f).params.isEmpty) = false then none
  else if (tr (bm' B f).sort).n.a ≠ 1 then some (false,n - 1) else kZ' B (iB' B g (aq ++ [f])) f (List.range (bm' B f).ctors.length) (n - 1)
def Later (w:World) (v v':Value):Prop:=v'.ownBlock = v.ownBlock \/ ∃ g,v'.ownBlock = some g /\ w.heap.size <= g
theorem Later.refl (w:World) (v:Value):Later w v v:=.inl rfl
theorem Later.trans {w w1:World} {v v1 v2:Value} (h:Later w v v1) (k:Later w1 v1 v2) (hs:w.heap.size <= w1.heap.size):Later w v v2:=by
 rcases k with k | ⟨g,k1,k2⟩
 ·rcases h with h | ⟨g,h1,h2⟩
  ·exact .inl (k.trans h)
  ·exact .inr ⟨g,k.trans h1,h2⟩
 ·exact .inr ⟨g,k1,KQ hs k2⟩
theorem Later.old {w:World} {v v1:Value} (h:Later w v v1) {x:Nat} (hx:x ∈ v1.ownBlock.toList) (hl:x < w.heap.size):x ∈ v.ownBlock.toList:=by
 have hx:v1.ownBlock = some x:=by simpa using hx
 rcases h with h | ⟨g,h1,h2⟩
 ·rw [<- h]; simpa using hx
 ·rw [h1] at hx
  obtain rfl:=JB hx;omega
theorem Kp.later {w w1 w2:World} {be:Nat} {v v1:Value} (h:Kp (be :: v.ownBlock.toList) w w1) (k:Kp (be :: v1.ownBlock.toList) w1 w2) (hl:Later w v v1):Kp (be :: v.ownBlock.toList) w w2 :=
 h.trans k fun x hx hlt=>by
  rcases List.mem_cons.1 hx with rfl | hx
  ·simp
  ·exact List.mem_cons_of_mem _ (hl.old hx hlt)
theorem Im.later {X:List Nat} {w w':World} {be:Nat} {v v':Value} (k:Kp (be :: v.ownBlock.toList) w w') (hbe:be ∈ X) (hv:Later w v v'):∀ b o u,Im (v.ownBlock.toList ++ X) w b o u -> Im (v'.ownBlock.toList ++ X) w' b o u:=fun b o u h=>by
 have hlt:=h.hold;refine ⟨h.1.kp k fun hb=>?_,fun hb=>?_⟩
 ·rcases List.mem_cons.1 hb with rfl | hb
  ·exact h.2 (List.mem_append_right _ hbe)
  ·exact h.2 (List.mem_append_left _ hb)
 ·rcases List.mem_append.1 hb with hb | hb
  ·exact h.2 (List.mem_append_left _ (hv.old hb hlt))
  ·exact h.2 (List.mem_append_right _ hb)
def PlP (X:List Nat) (w:World) (be:Nat) (B:BoT) (lo:Nat) (va:Value) (aq:List Int) (q:Bool × Nat) (e:Ending) (w':World):Prop :=
 e = .returned (.bool q.1) /\ (∃ va',Own rIn 75 lo w' va' aq /\ Later w va va' /\ EraC (Im (va'.ownBlock.toList ++ X) w') w' be B q.2 va') /\ Kp (be :: va.ownBlock.toList) w w'
def wH' (B:BoT) (aq:List Int) (rc:RcP):Prop :=
 ∀ {X:List Nat} {w:World} {be n lo:Nat} {va:Value} {f:Int} {a:Option Addr} {c:Nat} {q:Bool × Nat},(XL X w) -> be ∈ X -> be < lo -> Own rIn 75 lo w va aq -> EraC (Im (va.ownBlock.toList ++ X) w) w be B n va -> n <= 100000 -> rc f n = some q ->
  CC 34 #[pt be,inV f a c] w (PlP X w be B lo va aq q)
theorem uA' (w:World) {v:Value} (a:Option Addr) (c:Nat) (k:Int) :
  CC 115 #[v,.slice a 0 c,iV k] w (fun e w'=>e = .returned v /\ Kp [] w w'):=by
 refine oF Tryz.func115 ?_;refine cO (args:=[_,_,_]) 31 [.tmp 6] τok Tryz.func115 ?_;refine ot' (by decide) (by decide) ?_;refine lp τok (σ:=Unit) (fun _=>[(0,v),(7,iV (-1))]) (fun _ w'=>w' = w) (fun _=>0) () rfl ⟨rfl,rfl,trivial⟩ rfl ?_;rintro _ w1 rfl;exact ⟨rfl,Kp.refl _ _⟩
structure PcS where
 j:Nat
 m:Nat
 v:Value
 vs:Value
section
variable {B:BoT} {X:List Nat} {w:World} {be n lo:Nat} {va:Value} {aq:List Int} {rc:RcP}
theorem la' (hB:GoodB B) (hrc:wH' B aq rc) (hX:XL X w) (hbe:be ∈ X) (hlo:be < lo) (hO:Own rIn 75 lo w va aq) (hJ:EraC (Im (va.ownBlock.toList ++ X) w) w be B n va) (hn:n <= 100000) {f k:Int} (hf:dy' B B.ents.length f = true) (hps:(bm' B f).params = []) (hk0:0 <= k) (hk:k < (bm' B f).ctors.length) {a:Option Addr} {c:Nat} {q:Bool × Nat} (hq:uz' B rc f k n = some q) :
  CC 67 #[pt be,inV f a c,iV k] w (PlP X w be B lo va aq q):=by
 refine oF Tryz.func67 ?_;have hblk:=hO.block;obtain ⟨Z,hZ⟩:∃ Z,Z = va.ownBlock.toList ++ X:=⟨_,rfl⟩
 have hbeZ:be ∈ Z:=by rw [hZ]; exact List.mem_append_right _ hbe
 have hZw:XL Z w:=fun b hb=>by
  rw [hZ] at hb;rcases List.mem_append.1 hb with hb | hb
  ·exact (hblk b (by simpa using hb)).2
  ·exact hX b hb
 refine cO (args:=[_,_,_]) 70 [.tmp 6] τok Tryz.func67 ?_;refine new fun b4 w1 hb4 h4 hs1 hk1=>?_;have h4:Bk w1.heap b4 [iV f,.slice a 0 c] 75:=h4;rw [<- hZ] at hJ;have hZ1:=xU hZw hk1;have hb4Z:b4 ∉ Z:=fun hm=>by have:=hZw _ hm; omega
 have hJ1:EraC (Im Z w1) w1 be B n va:=(hJ.mono fun b o v h=>h.tr hk1).kp hk1 (by simp);unfold uz' at hq;refine lb h4 ?_;refine ab' (qv' hB hZ1 hbeZ hJ1 hn hf hk0 hk) ?_;rintro e w2 he;rcases he.cs with ⟨er,hz,rfl,hk2⟩ | ⟨⟨ks,m2⟩,u2,hz,rfl,hu2,hJ2,hk2⟩
 ·rw [hz] at hq
  cases hq
 rw [hz] at hq;simp only at hq hu2 hJ2;obtain ⟨hkl,hm2⟩:=go' hB _ _ _ _ hz;simp only at hkl hm2;have hu2:=hu2.mono fun b o v h=>Im.of_new hZ1 h;obtain ⟨i,x,s,ps,qi,rfl,_,hi,hxD,hF⟩:=hB.fam hf (KJ _);obtain ⟨bn,rfl⟩:∃ j:Nat,k = (j:Int):=⟨k.toNat,by omega⟩
 rw [hxD] at hk hps;obtain ⟨ct,hc,_⟩:=af' (l:=x.ctors) (k:=bn) (by omega);obtain ⟨ga,go,hC⟩:=hF.ct bn ct hc;obtain ⟨e4,e5,e6⟩:=hC.ag_eq hi hc;have hps0:ps = []:=by
  have h:=hF.params;rw [hps] at h;cases ps with
  | nil=>rfl
  | cons y r=>cases h
 subst hps0;rw [e4] at hq hkl;have hla:=hC.la;have k02:Kp [be] w w2:=(hk1.weak (by simp)).tq hk2;have hO2:=hO.kpl k02 (by simpa using hlo);have h4:=h4.kp hk2 (by simp; intro h; subst h; exact hb4Z hbeZ);obtain ⟨v1,v2,v3,hJb,_,hE,_⟩:=id hJ2;obtain ⟨bE,oE,cE,rfl,hat⟩:=hE.at hi;obtain ⟨w1e,w2e,w3e,w4e,w5e,w6e,hcs,hki,hso,hpa,hin,hct,hty,hbo⟩:=cW' hat;obtain ⟨ac,cc,rfl,_,_⟩:=id hct;obtain ⟨bc,oc,cc',pc,hca⟩:=hct.at hc;obtain ⟨va',vo,hccs,hva,hvo⟩:=gb' hca;rw [hC.args] at hva;have hva:=TmsV.sv.2 hva;obtain ⟨aa,ca,rfl,_,_⟩:=id hva;injection pc with q1 q2 q3
 subst q1 q3;refine aq' τok (fun z=>Kp [] w2 z) ?_;refine rV τok (rg 0 16) 0 (mR 16 16) (kQd w2) ?_;refine lk hJb ?_;refine lk h4 ?_;refine ix i rfl (ai' hi) ?_;refine ldK (hcs 4 _ rfl).1 ?_;refine ix bn rfl (ai' hc) ?_;refine ldK (hccs 0 _ rfl).1 ?_;refine dV ?_;obtain ⟨RES,hRES⟩:∃ r,q = r:=⟨_,rfl⟩
 rw [hRES] at hq ⊢;obtain ⟨wd,hwd⟩:∃ wd,wd = (dr w2):=⟨_,rfl⟩
 have kd2:Kp [] w2 wd:=by rw [hwd]; exact (Kp.refl [] w2).dr _
 rw [<- hwd];have upd:∀ b o v,Im Z w2 b o v -> Im Z wd b o v:=fun b o v h=>h.tr kd2;have h4:=h4.kp kd2 (by simp);have hOd:=hO2.kp kd2;have hJd:=(hJ2.mono upd).kp kd2 (by simp);have hvad:=hva.mono upd;have hksd:=hu2.mono upd;obtain ⟨aks,cks,rfl,_,_⟩:=id hu2;have k0d:Kp [be] w wd:=k02.tr kd2;have hb4d:b4 ∉ be :: va.ownBlock.toList:=fun h=>by
  rcases List.mem_cons.1 h with h | h
  ·exact hb4Z (h ▸ hbeZ)
  ·exact hb4Z (by rw [hZ]; exact List.mem_append_left _ h)
 have hXd:=xU hX k0d
 clear hE hJb hJ2 hva hvo hcs hct hat hki hso hpa hin hty hbo hccs hca
 rw [hZ] at hJd hvad hksd;refine lp τok (σ:=PcS) (fun q=>[(0,pt be),(4,pt b4),(7,.slice aks ks.length cks),(8,q.vs),(31,.slice aa ga.length ca),(32,iV (ga.length:Int)),(33,iV (q.j:Int))])
  (fun q w'=>q.j <= ga.length /\ q.m <= 100000 /\ SV rBd (Im (q.v.ownBlock.toList ++ X) w') ((dz' (ga.take q.j)).map bdR) q.vs /\ EraC (Im (q.v.ownBlock.toList ++ X) w') w' be B q.m q.v /\ Own rIn 75 lo w' q.v aq /\ Later wd va q.v /\ Kp (be :: va.ownBlock.toList) wd w' /\ kY' B rc (dz' (ga.take q.j)) ((ga.zip ks).drop q.j) q.m = some RES) (fun q=>ga.length - q.j) ⟨0,m2,va,.slice none 0 0⟩ rfl
  ⟨rfl,rfl,rfl,rfl,rfl,rfl,rfl,trivial⟩ ⟨KV _,by simp only; omega,SV.nil _ _,hJd,hOd,Later.refl _ _,Kp.refl _ _,hq⟩ ?_
 clear hq hJd hOd
 rintro ⟨j,m,v3',vs⟩ w3 ⟨hj,hm,hV,hJ3,hO3,hl3,k3,hres⟩;simp only at hj hm hV hJ3 hO3 hl3 hres;have fin:∀ {v':Value} {w':World} {z:Bool × Nat},Own rIn 75 lo w' v' aq -> Later wd va v' -> EraC (Im (v'.ownBlock.toList ++ X) w') w' be B z.2 v' -> Kp (be :: va.ownBlock.toList) wd w' -> PlP X w be B lo va aq z (.returned (.bool z.1)) w':=fun h1 h2 h3 h4 =>
  ⟨rfl,⟨_,h1,(Later.refl w va).trans h2 k0d.size,h3⟩,(k0d.weak (by simp)).tq h4⟩
 have hblk3:=hO3.block;obtain ⟨Y,hY⟩:∃ Y,Y = v3'.ownBlock.toList ++ X:=⟨_,rfl⟩
 have hbeY:be ∈ Y:=by rw [hY]; exact List.mem_append_right _ hbe
 have hX3:=xU hXd k3;have hY3:XL Y w3:=fun b hb=>by
  rw [hY] at hb;rcases List.mem_append.1 hb with hb | hb
  ·exact (hblk3 b (by simpa using hb)).2
  ·exact hX3 b hb
 have up3:∀ b o v,Im (va.ownBlock.toList ++ X) wd b o v -> Im Y w3 b o v:=by rw [hY]; exact Im.later k3 hbe hl3
 rw [<- hY] at hV hJ3;obtain ⟨avs,cvs,rfl,_,_⟩:=id hV;refine ac' (fun g1=>?_) (fun g1=>?_)
 ·have g1:(j:Int) < (ga.length:Int):=g1
  obtain ⟨p,hp,_⟩:=af' (l:=ga) (k:=j) (by omega);obtain ⟨bb,hbb,_⟩:=af' (l:=ks) (k:=j) (by omega);obtain ⟨z,hz',hdz⟩:=af' (l:=ga.zip ks) (k:=j) (by simp; omega);have hzz:(ga.zip ks)[j]? = some (p,bb):=by
   rw [List.getElem?_zip_eq_some];exact ⟨hp,hbb⟩
  rw [hzz] at hz';obtain rfl:=JB hz';rw [hdz] at hres;simp only [kY'] at hres;obtain ⟨bq,oq,cq,pq,zp,hzp,hzpT⟩:=(hvad.mono up3).get hp;injection pq with q1 q2 q3
  subst q1 q3;obtain ⟨azp,czp,rfl,_,_⟩:=id hzpT;refine ix j rfl (by omega) ?_;refine ld (Cl.cell (Im.sub Y w3 _ _ _ hzp)) ?_;have h43:=h4.kp k3 hb4d;refine lb h43 ?_;refine ab' (uA' w3 a c (j:Int)) ?_;rintro e w4 ⟨rfl,hk4⟩;have hcxl:(dz' (ga.take j)).length = j:=by rw [ed']; simp; omega
  have hpF:Ft (QB B) ((dz' (ga.take j)).length:Int) p:=by
   rw [hcxl];have h:=hC.up_a hi hF.kind hp
   simpa using h
  have hcx:CxOk B (dz' (ga.take j)):=gZ' fun k y hy=>by
   rw [List.getElem?_take] at hy;split at hy
   ·have h:=hC.up_a hi hF.kind hy
    simpa using h
   ·cases hy
  have up4:∀ b o v,Im Y w3 b o v -> Im Y w4 b o v:=fun b o v h=>h.tr hk4;have hY4:=xU hY3 hk4;have hV4:=hV.mono up4;have hp4:=hzpT.mono up4;have hJ4:EraC (Im Y w4) w4 be B m v3':=(hJ3.mono up4).kp hk4 (by simp);have hO4:=hO3.kp hk4;have k4:Kp (be :: va.ownBlock.toList) wd w4:=k3.tr hk4;obtain ⟨ak3,ck3,pk3,hsk,_⟩:=hksd.mono fun b o v h=>up4 b o v (up3 b o v h);injection pk3 with q1 q2 q3
  subst q1 q3;obtain ⟨bk,ok,rfl,hcell⟩:=hsk.at (by omega:j < ks.length)
  obtain ⟨cs',hcs',hcc'⟩:=hcell j bb hbb;have hcs':cs' = [.bool bb]:=hcs';subst hcs';have hcl:=hcc' 0 _ rfl;refine ix j rfl (by omega) ?_;refine ld (Cl.cell (Im.sub Y w4 _ _ _ hcl)) ?_;cases bb with
  | false =>
   rw [if_neg (by decide)] at hres;rw [hY] at hV4 hp4 hJ4;have hVa:=hV4;have hpa':=hp4;have hJa:=hJ4;have hOa:=hO4;have hlA:=hl3;have ka:=k4;have hXa:=xU hX3 hk4;refine fill [.slice azp (row p).length czp,.slice none 0 0] rfl ?_;refine new fun bz wb hbz hzb hsb hkb=>?_;obtain ⟨U,hU⟩:∃ U,U = (v3').ownBlock.toList ++ X:=⟨_,rfl⟩
   have hblka:=hOa.block;have hUa:∀ b ∈ U,b < (w4).heap.size:=fun b hb=>by
    rw [hU] at hb;rcases List.mem_append.1 hb with hb | hb
    ·exact (hblka b (by simpa using hb)).2
    ·exact hXa b hb
   rw [<- hU] at hVa hpa' hJa;have hUb:=xU hUa hkb;have hbzU:bz ∉ U:=fun hm=>by
    have h1:=hUa _ hm;omega
   refine ab' (cA' (t:=p) (o:=none) hUb (hVa.mono fun _ _ _ h=>h.tr hkb) (by rw [hcxl]; omega) hzb hbzU (hpa'.mono fun _ _ _ h=>h.tr hkb) (SV.nil _ _)) ?_;rintro e wc ⟨⟨vc,rfl,hvc⟩,hkc⟩;have oc:=hvc.one;have kac:=hkb.tr hkc;refine i6 ?_;refine ⟨⟨j + 1,m,v3',vc⟩,by simp only; omega,rfl,⟨rfl,rfl,rfl,rfl,rfl,rfl,rfl,trivial⟩,by show j + 1 <= _; omega,by simp only; omega,?_,?_,hOa.kp kac,hlA,ka.tr kac,?_⟩
   ·show SV rBd (Im ((v3').ownBlock.toList ++ X) wc) ((dz' (ga.take (j + 1))).map bdR) vc
    rw [aj' hp,bn',<- hU];exact hvc
   ·show EraC (Im ((v3').ownBlock.toList ++ X) wc) wc be B m v3'
    rw [<- hU];exact (hJa.mono fun b o v h=>h.tr kac).kp kac (by simp)
   ·show kY' B rc (dz' (ga.take (j + 1))) ((ga.zip ks).drop (j + 1)) m = some RES
    rw [aj' hp,bn'];exact hres
  | true =>
   rw [if_pos rfl] at hres;refine ab' (jx' hB hcx (by omega) hY4 hbeY hJ4 hpF hV4 hp4) ?_;rintro e w5 he;rcases he.cs with ⟨er,hz,rfl,hk5⟩ | ⟨⟨z,m5⟩,u,hz,rfl,hu,hJ5,hk5⟩
   ·rw [hz] at hres
    cases hres
   obtain ⟨_,hm5,hzF⟩:=cQ' hB hcx hpF hz;rw [hz] at hres;simp only at hres hu hJ5 hm5 hzF;split at hres
   case isFalse=>cases hres
   rename_i hbare;obtain ⟨⟨bo,m9⟩,hrq,hres⟩:=Option.bind_eq_some_iff.1 hres;simp only at hres;split at hres
   ·cases hres
   rename_i hm9;simp only [st',Bool.and_eq_true,decide_eq_true_eq,List.isEmpty_iff] at hbare;obtain ⟨h9,hfz,hpz,hqz,haz⟩:=hbare;have hY5:=xU hY4 hk5;refine ab' (qA' hB hY5 hbeY hJ5 hzF h9 hfz hpz hqz haz hu) ?_;rintro e w6 ⟨⟨ad,cd,rfl⟩,hk6⟩;refine new fun b11 w7 hb11 h11 hs7 hk7=>?_;refine stN (vs:=[iV (headT z).n.a,.slice ad 0 cd]) h11 rfl (by simp [Value.oneCell']) fun w8 h11 hs8 hk8=>?_;have h11:Bk w8.heap b11 [iV (headT z).n.a,.slice ad 0 cd] 75:=h11;have k68:=hk7.newSt hb11 hk8;have k58:Kp [] w5 w8:=hk6.tr k68;have k48:Kp [be] w4 w8:=hk5.tr k58;have hX8:XL X w8:=fun b hb=>KZ (hX3 b hb) (KQ hk4.size k48.size);have hO8:=hO4.kpl k48 (by simpa using hlo);have hJ8:EraC (Im Y w8) w8 be B m5 v3':=(hJ5.mono fun b o v h=>h.tr k58).kp k58 (by simp);rw [hY] at hJ8;refine ldN [iV (headT z).n.a,.slice ad 0 cd] rfl (bZ h11) ?_;refine ab' (hrc hX8 hbe hlo hO8 hJ8 (by omega) hrq) ?_;rintro e wa ⟨rfl,⟨va9,hOa,hla',hJa⟩,hka⟩;have k8:Kp (be :: va.ownBlock.toList) wd w8:=(k4.trans (Y:=be :: v3'.ownBlock.toList) (k48.weak (by simp)) fun x hx hlt=>by
    rcases List.mem_cons.1 hx with rfl | hx
    ·simp
    ·exact List.mem_cons_of_mem _ (hl3.old hx hlt))
   have ka:Kp (be :: va.ownBlock.toList) wd wa:=Kp.later k8 hka hl3;have hlA:Later wd va va9:=hl3.trans hla' k8.size;simp only at hJa;cases bo with
   | false =>
    simp only [Bool.false_eq_true,if_false] at hres;obtain rfl:=JB hres;exact fin (z:=(false,m9)) hOa hlA hJa ka
   | true =>
    simp only [if_true] at hres;have up9:∀ b o v,Im Y w4 b o v -> Im (va9.ownBlock.toList ++ X) wa b o v:=fun b o v h=>by
     rw [hY] at h;exact Im.later hka hbe hla' b o v (Im.kp k48 (fun y hy _=>by
      obtain rfl:y = be:=by simpa using hy
      exact List.mem_append_right _ hbe) h)
    have hVa:=hV4.mono up9;have hpa':=hp4.mono up9;have hXa:=xU hX8 hka;refine fill [.slice azp (row p).length czp,.slice none 0 0] rfl ?_;refine new fun bz wb hbz hzb hsb hkb=>?_;obtain ⟨U,hU⟩:∃ U,U = (va9).ownBlock.toList ++ X:=⟨_,rfl⟩
    have hblka:=hOa.block;have hUa:∀ b ∈ U,b < (wa).heap.size:=fun b hb=>by
     rw [hU] at hb;rcases List.mem_append.1 hb with hb | hb
     ·exact (hblka b (by simpa using hb)).2
     ·exact hXa b hb
    rw [<- hU] at hVa hpa' hJa;have hUb:=xU hUa hkb;have hbzU:bz ∉ U:=fun hm=>by
     have h1:=hUa _ hm;omega
    refine ab' (cA' (t:=p) (o:=none) hUb (hVa.mono fun _ _ _ h=>h.tr hkb) (by rw [hcxl]; omega) hzb hbzU (hpa'.mono fun _ _ _ h=>h.tr hkb) (SV.nil _ _)) ?_;rintro e wc ⟨⟨vc,rfl,hvc⟩,hkc⟩;have oc:=hvc.one;have kac:=hkb.tr hkc;refine i6 ?_;refine ⟨⟨j + 1,m9,va9,vc⟩,by simp only; omega,rfl,⟨rfl,rfl,rfl,rfl,rfl,rfl,rfl,trivial⟩,by show j + 1 <= _; omega,by simp only; omega,?_,?_,hOa.kp kac,hlA,ka.tr kac,?_⟩
    ·show SV rBd (Im ((va9).ownBlock.toList ++ X) wc) ((dz' (ga.take (j + 1))).map bdR) vc
     rw [aj' hp,bn',<- hU];exact hvc
    ·show EraC (Im ((va9).ownBlock.toList ++ X) wc) wc be B m9 va9
     rw [<- hU];exact (hJa.mono fun b o v h=>h.tr kac).kp kac (by simp)
    ·show kY' B rc (dz' (ga.take (j + 1))) ((ga.zip ks).drop (j + 1)) m9 = some RES
     rw [aj' hp,bn'];exact hres
 have g1:¬ (j:Int) < (ga.length:Int):=g1;obtain rfl:j = ga.length:=by omega
 rw [JY (by rw [List.length_zip]; omega)] at hres;simp only [kY'] at hres;obtain rfl:=JB hres;rw [hY] at hJ3;exact fin (z:=(true,m)) hO3 hl3 hJ3 k3
end
end Go.Proofs.YtmlnlmkmpgkekaaGreat
namespace Go.Wx
def fnKE (P:Program) (rs:List ResultVar) (R:Ending -> World -> Prop):Exit -> St -> World -> Prop
 | .normal,s,w=>lv P rs R .returning s w
 | .ret,s,w=>(s.d = [] /\ qJ' P s rs w fun vs=>R (.returned (one vs)) w) \/ lv P rs R .returning s w
 | .panic ch,s,w=>lv P rs R (.panicking ch) s w
 | _,_,_=>False
theorem nZ' {P:Program} {τ:Tau} {f:FuncId} {fn:Func} {c:Code} {args:List Value} {w:World} {R:Ending -> World -> Prop} (n:Nat) (rs:List ResultVar) (hτ:au' P τ)
  (hf:P.funcs[f]? = some fn) (hb:fn.body = some c) (hn:fn.ntmps = n) (hrs:fn.results.toList = rs) (hle:args.length <= n)
  (h:wpx P τ n c ⟨ini args 0,[]⟩ w (fnKE P rs R)):Calls P f args.toArray w R:=by
 subst hn hrs;refine calls_of_wp_defers hf hb ?_;have hF:Fr fn.ntmps { tmps:=args.toArray ++ Array.replicate (fn.ntmps - args.toArray.size) undef,defers:=[] } ⟨ini args 0,[]⟩:=by
  refine ⟨by simp; omega,rfl,fun t v ht=>?_⟩;obtain ⟨_,h2⟩:=gr' _ _ _ _ ht;rw [Nat.sub_zero] at h2;have hlt:t < args.length:=(List.getElem?_eq_some_iff.1 h2).1;rw [Array.getElem?_append_left (by simpa using hlt)]
  simpa using h2
 refine Go.wp_mono (ax' hτ c _ w _ h _ hF) fun e a' w' hl=>?_;obtain ⟨s,hF',hs⟩:=hl;cases e with
 | normal=>exact cT' hF' hs
 | ret =>
  rcases hs with ⟨hd,hr⟩ | hs
  ·obtain ⟨vs,h1,h2⟩:=bI' hF' hr
   show Leaves P fn a'.tmps R a'.defers .returning w';rw [hF'.defers,hd];exact ⟨_,h1,h2⟩
  ·exact cT' hF' hs
 | panic ch=>exact cT' hF' hs
 | outgrown=>exact hs.elim
 | exit id=>exact hs.elim
 | goto l=>exact hs.elim
theorem ldNT {C:World -> Prop} {b o n:Nat} {k:Value -> Prop} (cs:List Value) (hn:cs.length = n) (h:∀ w',C w' -> ∀ j v,cs[j]? = some v -> Cl w'.heap b (o + j) v) (hk:k (.agg cs.toArray)):EvLdNQ C ⟨b,o,none⟩ n k:=by
 unfold EvLdNQ;refine ⟨cs,hn,fun w' hw j v hj=>?_,hk⟩;have:=(h w' hw j v hj).cell;unfold Addr.add;split
 ·rename_i h0
  subst h0
  simpa using this
 ·exact this
end Go.Wx
namespace Go.Proofs.YtmlnlmkmpgkekaaGreat
open Go.Wx Cd Tm Lv
theorem me' {w:World} {b2 be T2 n m c:Nat} {B:BoT} {v1 v2 v3:Value} {g:Nat} (h2:Bk w.heap b2 [pt be] T2) (hJ:Bk w.heap be [iV B.vars,v1,v2,iV B.nat,v3,iV (n:Int),.slice (some ⟨g,0,none⟩) (m + 1) c] 89) (hm:m <= 1000) (hc:m + 1 <= c) :
  CallsD Tryz.prog 66 #[pt b2] .returning w fun e u' w'=>(∃ v,e = .returned v) /\ u' = .returning /\ Bk w'.heap be [iV B.vars,v1,v2,iV B.nat,v3,iV (n:Int),.slice (some ⟨g,0,none⟩) m c] 89 /\ Kp [be] w w':=by
 refine callsD_of_wpS Tryz.func66 rfl fun c₀ cs hu=>?_;refine wpS_of_wp (Go.wp_mono (ax' τok (n:=15) _ ⟨[(0,pt b2)],[]⟩ _ (fun e s w'=>e = .normal /\ s.d = [] /\ Bk w'.heap be [iV B.vars,v1,v2,iV B.nat,v3,iV (n:Int),.slice (some ⟨g,0,none⟩) m c] 89 /\ Kp [be] w w') ?_ _ (hH' (by simp) rfl ?_)) ?_)
 ·refine aq' τok (fun z=>Kp [] w z) ?_
  refine rV τok (rg 0 12) 3 (mR 15 12) (kQd w) ?_;refine lk h2 ?_;refine lk h2 ?_;refine lk hJ ?_;refine lk h2 ?_;refine lk hJ ?_;refine Go.Wx.i64n (m:Int) (by omega) (by omega) (by omega) ?_;refine tr' τok rfl m (.slice (some ⟨g,0,none⟩) m c) rfl (by omega) bT' ?_;refine rV τok [12,13] 1 (mR 15 14) (kQd w) ?_;refine nV τok 14 0 (mR 15 15) ?_;refine st (b:=be) (o:=6) hJ (by simp) rfl fun w3 hJ3 hs3 hk3=>?_;refine ⟨.inr (by kernel_rfl),?_⟩;refine dV ?_;exact ⟨rfl,rfl,hJ3,hk3.rd⟩
 ·intro q hq
  simp only [JJ,JZ,or_false] at hq;subst hq;simp
 ·rintro e a' w' ⟨s,hF,rfl,hd,hb,hk⟩
  exact nC' hF hd rfl hu ⟨⟨_,rfl⟩,rfl,hb,hk⟩
section
variable {B:BoT} {X:List Nat} {w:World} {be n lo:Nat} {va:Value} {aq:List Int} {rc:RcP}
theorem jE' {w0 wr:World} {b2 T2 m:Nat} {v':Value} {f:Int} (hbe:be ∈ X) (hlo:be < lo) (h2:Bk wr.heap b2 [pt be] T2) (hO:Own rIn 75 lo wr v' (aq ++ [f])) (hl:Later w va v') (hJ:EraC (Im (v'.ownBlock.toList ++ X) wr) wr be B m v') (k0:Kp [] w0 w) (k:Kp (be :: va.ownBlock.toList) w wr) (hlen:aq.length <= 1000) :
  CallsD Tryz.prog 66 #[pt b2] .returning wr fun e u' w'=>(∃ v,e = .returned v) /\ u' = .returning /\ ∀ z:Bool × Nat,z.2 = m -> PlP X w0 be B lo va aq z (.returned (.bool z.1)) w':=by
 obtain ⟨g,cg,rfl,hcg⟩:∃ g c,v' = .slice (some ⟨g,0,none⟩) (aq.length + 1) c /\ aq.length + 1 <= c:=by
  obtain ⟨a,c,hv,hc⟩:=hO.cap;rw [show (aq ++ [f]).length = aq.length + 1 by simp] at hv hc;obtain ⟨css,h1,h3⟩:=hO.row;rcases h1.2 with ⟨_,h0⟩ | ⟨g',cap,cur,hv',_,_,hn,_⟩
  ·have:=h3.length
   simp at h0
  ·rw [hv'] at hv ⊢
   injection hv with q1 q2 q3
   subst q3;rw [show (aq ++ [f]).length = aq.length + 1 by simp];exact ⟨g',_,rfl,hc⟩
 obtain ⟨v1,v2,v3,hJb,hOr,hE,hP⟩:=hJ;refine (me' h2 hJb hlen hcg).mono ?_;rintro e u' w' ⟨he,rfl,hJ',hk'⟩;refine ⟨he,rfl,?_⟩;rintro ⟨b,m'⟩ rfl;have hbl:(Value.slice (some ⟨g,0,none⟩) aq.length cg).ownBlock = (Value.slice (some ⟨g,0,none⟩) (aq.length + 1) cg).ownBlock:=rfl;have hO':=(hO.take (k:=aq.length) (by simp)).kpl hk' (by simpa using hlo);rw [List.take_left] at hO';have up:∀ b o u,Im ((Value.slice (some ⟨g,0,none⟩) (aq.length + 1) cg).ownBlock.toList ++ X) wr b o u -> Im ((Value.slice (some ⟨g,0,none⟩) aq.length cg).ownBlock.toList ++ X) w' b o u:=fun b o u h=>Im.kb hk' (List.mem_append_right _ hbe) b o u h;refine ⟨rfl,⟨_,hO',(Later.refl w0 va).trans (hl.trans (.inl hbl) (KJ _)) k0.size,v1,v2,v3,hJ',hOr.mono up,hE.mono up,hP.mono up⟩,(k0.weak (by simp)).trans (k.trans hk' fun x hx _=>by simp at hx; simp [hx]) fun x hx _=>hx⟩
theorem su' (hB:GoodB B):∀ (g:Nat) (aq:List Int),aq.length + g <= 1000 -> wH' B aq (iB' B g aq):=by
 intro g
 induction g with
 | zero =>
  intro aq _ X w be n lo va f a c q _ _ _ _ _ _ hq;cases hq
 | succ g ih =>
  intro aq hlen X w be n lo va f a c q hX hbe hlo hO hJ hn hq;refine oF Tryz.func34 ?_;simp only [iB'] at hq;have hblk:=hO.block;refine nZ' (args:=[_,_]) 65 [.tmp 4] τok Tryz.func34 rfl rfl rfl (Nat.le_of_ble_eq_true rfl) ?_;refine new fun b2 w1 hb2 h2 hs1 hk1=>?_;refine new fun b3 w2 hb3 h3 hs2 hk2=>?_;have h2:Bk w1.heap b2 [pt be] 61:=h2;have h3:Bk w2.heap b3 [iV f,.slice a 0 c] 75:=h3;have h2:=h2.kp hk2 (by simp);have k02:=hk1.tr hk2;have hX2:=xU hX k02;have hn2:w.heap.size <= b2 /\ b2 < b3 /\ b3 < w2.heap.size:=by
   have:=hk1.size;have:=h3.lt;omega
  have hbX:=hX be hbe;have nva:∀ x,x ∈ va.ownBlock.toList -> x < w.heap.size:=fun x hx=>(hblk x (by simpa using hx)).2;have hO2:=hO.kp k02;have hJ2:EraC (Im (va.ownBlock.toList ++ X) w2) w2 be B n va:=(hJ.mono fun b o v h=>h.tr k02).kp k02 (by simp);obtain ⟨av,cv,hva,hcv⟩:=hO2.cap;obtain ⟨av',cv',hva',hsv⟩:=hO2.den (by omega);rw [hva] at hva';injection hva' with q1 q2 q3
  subst q1 q3;subst hva;obtain ⟨v1,v2,v3,hJb,hOr,hE,hP⟩:=id hJ2;refine aq' τok (fun z=>Kp [] w2 z) ?_;refine rV τok (rg 0 5) 2 (mR 7 5) (kQd w2) ?_;refine lk h2 ?_;refine lk hJb ?_;refine cB' [iV f,.slice a 0 c] rfl (bZ h3) ?_;refine nV τok 5 1 (mR 7 6) ?_;refine ⟨.inl (kQd w2),?_⟩;refine nV τok 6 0 (mR 7 7) ?_;refine ab' (jD' (w:=(dr w2)) ((New.sub _ _).tr (kQd w2)) aq av cv hsv (by omega) f a c) ?_;rintro e w3 ⟨rfl,hk3⟩;have hk3:Kp [] w2 w3:=hk3.rd;refine ⟨.inl hk3,?_⟩;refine dV ?_;have k03:=k02.tr hk3;refine ac' (fun g1=>?_) (fun g1=>?_)
  ·have g1:f ∈ aq:=g1
   rw [if_pos g1] at hq;obtain rfl:=JB hq;exact .inl ⟨rfl,rfl,⟨_,hO2.kp hk3,Later.refl _ _,(hJ2.mono fun b o v h=>h.tr hk3).kp hk3 (by simp)⟩,k03.weak (by simp)⟩
  have g1:¬ f ∈ aq:=g1;rw [if_neg g1] at hq;split at hq
  ·cases hq
  rename_i hn0;split at hq
  ·cases hq
  rename_i hfam;have hfam:dy' B B.ents.length f = true /\ (bm' B f).params = []:=by simpa [List.isEmpty_iff] using hfam
  obtain ⟨hfam,hps⟩:=hfam;have h2:=h2.kp hk3 (by simp);have h3:=h3.kp hk3 (by simp);have hJb:=hJb.kp hk3 (by simp);refine lb h2 ?_;refine lb hJb ?_;refine bE' (p:=(n:Int) = 0) (by omega) ?_;refine lb h2 ?_;refine lb hJb ?_;refine Go.Wx.i64n ((n - 1:Nat):Int) (by omega) (by omega) (by omega) ?_;refine st (b:=be) (o:=5) hJb (by simp) rfl fun w4 hJ4 hs4 hk4=>?_;have hJ4:Bk w4.heap be [iV B.vars,v1,v2,iV B.nat,v3,iV ((n - 1:Nat):Int),.slice av aq.length cv] 89:=hJ4;have h24:=h2.kp hk4 (by simp; omega);have h34:=h3.kp hk4 (by simp; omega);have k24:Kp [be] w2 w4:=(hk3.weak (by simp)).tq hk4;have hO4:=hO2.kpl k24 (by simpa using hlo);obtain ⟨va,hva⟩:∃ va,va = Value.slice av aq.length cv:=⟨_,rfl⟩
  have nbe:be ∉ va.ownBlock.toList:=fun h=>by have:=(hblk be (by rw [<- hva]; simpa using h)).1; omega
  rw [<- hva] at nva hO4 hOr hE hP;refine aq' τok (fun z=>Kp va.ownBlock.toList w4 z) ?_;refine rV τok (rg 0 6) 5 (mR 11 6) ((Kp.refl _ w4).dr _) ?_;refine ldQ (fun z hz=>(h24.cl rfl).kp hz fun h=>by have:=nva _ h; omega) ?_;refine ldQ (fun z hz=>(h24.cl rfl).kp hz fun h=>by have:=nva _ h; omega) ?_;refine ldQ (fun z hz=>(hJ4.cl rfl).kp hz nbe) ?_;refine ldNT [iV f,.slice a 0 c] rfl (fun z hz j v hj=>by rw [KW]; exact (h34.cl hj).kp hz fun h=>by have:=nva _ h; omega) ?_;obtain ⟨i,x,s,ps,qi,rfl,_,hi,hxD,hF⟩:=hB.fam hfam (KJ _);have hlen64:=hB.len;have hil:=ai' hi;have hI64:I64 (i:Int):=by unfold I64; omega
  refine nV τok 6 4 (mR 11 7) ?_;refine fill [iV (i:Int),.slice a 0 c] rfl ?_;refine new fun bp w5 hbp hp hs5 hk5=>?_;have hk5:Kp [] w4 w5:=hk5.rd;refine ⟨.inl (hk5.weak (by simp)),?_⟩;refine nV τok 7 3 (mR 11 8) ?_;have hO5:=hO4.kp hk5;have hO5':=hO5;rw [hva] at hO5';refine hO5'.ap1 τok rfl rfl (by decide) (i:Int) [iV (i:Int),.slice a 0 c] ⟨a,c,rfl,hI64⟩ (bZ hp) (by omega) (by unfold maxLen; omega) fun v7 w6 hO6 hk6 hv7=>?_;rw [<- hva] at hk6 hv7;have k46:Kp va.ownBlock.toList w4 w6:=(hk5.weak (by simp)).trans hk6 fun y hy _=>hy;refine ⟨.inl k46,?_⟩;have o7:v7.oneCell' = true:=by obtain ⟨_,_,rfl⟩:=hO6.len; rfl
  refine rV τok [8,9] 1 (mR 11 10) k46 ?_;refine nV τok 10 0 (mR 11 11) ?_;refine st (b:=be) (o:=6) (hJ4.kp k46 nbe) (by simp) o7 fun w7 hJ7 hs7 hk7=>?_;refine ⟨.inr (by kernel_rfl),?_⟩;refine dV ?_;have hJ7:Bk w7.heap be [iV B.vars,v1,v2,iV B.nat,v3,iV ((n - 1:Nat):Int),v7] 89:=hJ7;have hO7:=hO6.kpl hk7 (by simpa using hlo);have n2:b2 ∉ be :: va.ownBlock.toList:=fun h=>by
   rcases List.mem_cons.1 h with h | h
   ·omega
   ·have:=nva _ h; omega
  have n3:b3 ∉ be :: va.ownBlock.toList:=fun h=>by
   rcases List.mem_cons.1 h with h | h
   ·omega
   ·have:=nva _ h; omega
  have k27:Kp (be :: va.ownBlock.toList) w2 w7:=((k24.weak (by simp)).trans k46 fun x hx _=>List.mem_cons_of_mem _ hx).trans hk7 fun x hx _=>by simp at hx; simp [hx]
  have k47:Kp (be :: va.ownBlock.toList) w4 w7:=(k46.weak fun x hx _=>List.mem_cons_of_mem _ hx).trans hk7 fun x hx _=>by simp at hx; simp [hx]
  have h27:=h24.kp k47 n2;have h37:=h34.kp k47 n3;have hl7:Later w2 va v7:=hv7.imp id fun h=>⟨_,h,KQ k24.size hk5.size⟩
  have up7:∀ b o v,Im (va.ownBlock.toList ++ X) w2 b o v -> Im (v7.ownBlock.toList ++ X) w7 b o v:=Im.later k27 hbe hl7;obtain ⟨e1,e2,e3⟩:=hF.ps_eq hi;rw [e3,hxD] at hq;have hps0:=hps;rw [hxD] at hps0;obtain ⟨bE,oE,cE,rfl,hat⟩:=(hE.mono up7).at hi;obtain ⟨w1e,w2e,w3e,w4e,w5e,w6e,hcs,hki,hso,hpa,hin,hct,hty,hbo⟩:=cW' hat;have hone:∀ v ∈ [iV x.kind,w1e,w2e,w3e,w4e,w5e,w6e],v.oneCell' = true:=fun v hv=>by
   simp at hv;rcases hv with rfl | rfl | rfl | rfl | rfl | rfl | rfl
   ·rfl
   ·exact hso.one
   ·exact hpa.one
   ·exact hin.one
   ·exact hct.one
   ·exact hty.one
   ·exact hbo.one
  have hE7:EraC (Im (v7.ownBlock.toList ++ X) w7) w7 be B (n - 1) v7:=⟨v1,_,v3,hJ7,hOr.mono up7,hE.mono up7,hP.mono up7⟩
  have hso':TmV (Im (v7.ownBlock.toList ++ X) w7) s w1e:=by
   unfold TmV;rw [<- hF.sort];exact hso
  obtain ⟨bs,os,cs_,rfl,i1,i2,i3,hhc⟩:=hso'.hd;obtain ⟨ac,cc,rfl,_,_⟩:=id hct;refine aq' τok (fun z=>Kp [] w7 z) ?_;refine rV τok (rg 0 9) 2 (mR 11 9) (kQd w7) ?_;refine lk h27 ?_;refine lk hJ7 ?_;refine lk h37 ?_;refine ix i rfl hil ?_;refine cB' [iV x.kind,.slice (some ⟨bs,os,none⟩) (row s).length cs_,w2e,w3e,.slice ac x.ctors.length cc,w5e,w6e] rfl (fun j v hj=>(hcs j v hj).1) ?_;refine nV τok 9 1 (mR 11 10) ?_;refine new fun b5 w8 hb5 h5 hs8 hk8=>?_;have hk8:Kp [] w7 w8:=hk8.rd;refine ⟨.inl hk8,?_⟩;refine nV τok 10 0 (mR 11 11) ?_;refine stN (vs:=[iV x.kind,.slice (some ⟨bs,os,none⟩) (row s).length cs_,w2e,w3e,.slice ac x.ctors.length cc,w5e,w6e]) h5 rfl hone fun w9 h5 hs9 hk9=>?_;refine ⟨.inr (by kernel_rfl),?_⟩;refine dV ?_;have h5:Bk w9.heap b5 [iV x.kind,.slice (some ⟨bs,os,none⟩) (row s).length cs_,w2e,w3e,.slice ac x.ctors.length cc,w5e,w6e] 72:=h5;have k79:=hk8.newSt hb5 hk9;have k29:=k27.tr k79;have h29:=h27.kp k79 (by simp);have h39:=h37.kp k79 (by simp);have hO9:=hO7.kp k79;have hJ9:EraC (Im (v7.ownBlock.toList ++ X) w9) w9 be B (n - 1) v7:=(hE7.mono fun b o v h=>h.tr k79).kp k79 (by simp);refine lb h5 ?_;refine ix 0 rfl (ag' _) ?_;refine ld (Cl.cell ((by simpa using hhc 1 _ rfl:Im (v7.ownBlock.toList ++ X) w7 bs (os + 0 * 3 + 1) (iV s.n.a)).1.kp k79 (by simp))) ?_;refine ac' (fun g2=>?_) (fun g2=>?_)
  ·have g2:s.n.a ≠ 1:=g2
   rw [if_pos g2] at hq;obtain rfl:=JB hq;subst hva;refine .inr ⟨_,_,_,66,#[pt b2],rfl,by simp,by simp [go_sem],(jE' hbe hlo h29 hO9 hl7 hJ9 k02 k29 (by omega)).mono ?_⟩;rintro e u' w' ⟨he,rfl,h⟩;exact ⟨he,rfl,h (false,n - 1) rfl⟩
  have g2:¬ s.n.a ≠ 1:=g2;rw [if_neg g2] at hq;refine lb h5 ?_;have hlc:=hF.lc;have hrl:(List.range x.ctors.length).length = x.ctors.length:=List.length_range;obtain ⟨RES,hRES⟩:∃ r,q = r:=⟨_,rfl⟩
  rw [hRES] at hq ⊢;obtain ⟨RC,hRC⟩:∃ r,iB' B g (aq ++ [(i:Int)]) = r:=⟨_,rfl⟩
  have ih1:wH' B (aq ++ [(i:Int)]) (iB' B g (aq ++ [(i:Int)])):=@ih (aq ++ [(i:Int)]) (by simp; omega);rw [hRC] at ih1 hq;have hlA7:(aq ++ [(i:Int)]).length <= 1000:=by simp; omega
  refine lpD τok (σ:=Nat × Nat × Value) _ (fun q=>[(2,pt b2),(3,pt b3),(55,iV (x.ctors.length:Int)),(56,iV (q.1:Int))])
   (fun q w'=>q.1 <= x.ctors.length /\ q.2.1 <= 100000 /\ Own rIn 75 lo w' q.2.2 (aq ++ [(i:Int)]) /\ Later w2 va q.2.2 /\ EraC (Im (q.2.2.ownBlock.toList ++ X) w') w' be B q.2.1 q.2.2 /\ Kp (be :: va.ownBlock.toList) w2 w' /\ Bk w'.heap b2 [pt be] 61 /\ Bk w'.heap b3 [iV (i:Int),.slice a 0 c] 75 /\ kZ' B RC (i:Int) ((List.range x.ctors.length).drop q.1) q.2.1 = some RES) (fun q=>x.ctors.length - q.1) (0,n - 1,v7) rfl
   ⟨rfl,rfl,rfl,rfl,trivial⟩ ⟨KV _,by simp only; omega,hO9,hl7,hJ9,k29,h29,h39,hq⟩ ?_
  rintro ⟨j,m,v'⟩ wa ⟨hj,hm,hOa,hla,hJa,k2a,h2a,h3a,hres⟩;simp only at hj hm hOa hla hJa hres;refine ac' (fun g3=>?_) (fun g3=>?_)
  ·have g3:(j:Int) < (x.ctors.length:Int):=g3
   obtain ⟨z,hz,hd⟩:=af' (l:=List.range x.ctors.length) (k:=j) (by omega);obtain rfl:z = j:=by
    rw [List.getElem?_range (by omega)] at hz;exact (JB hz).symm
   rw [hd] at hres;simp only [kZ'] at hres;obtain ⟨⟨bo,m9⟩,hcq,hres⟩:=Option.bind_eq_some_iff.1 hres;simp only at hres;split at hres
   ·cases hres
   rename_i hm9;have hXa:=xU hX2 k2a;refine lb h2a ?_;refine ldN [iV (i:Int),.slice a 0 c] rfl (bZ h3a) ?_;refine ab' (la' (k:=(z:Int)) hB @ih1 hXa hbe hlo hOa hJa hm hfam (by rw [hxD]; exact hps0) (by omega) (by rw [hxD]; omega) hcq) ?_;rintro e wb ⟨rfl,⟨v9,hOb,hlb,hJb9⟩,hkb⟩;have k2b:Kp (be :: va.ownBlock.toList) w2 wb:=Kp.later k2a hkb hla;have hlB:Later w2 va v9:=hla.trans hlb k2a.size;have h2b:Bk wb.heap b2 [pt be] 61:=h2a.kp hkb fun h=>by
    rcases List.mem_cons.1 h with h | h
    ·omega
    ·have:=nva _ (hla.old h (by omega)); omega
   have h3b:Bk wb.heap b3 [iV (i:Int),.slice a 0 c] 75:=h3a.kp hkb fun h=>by
    rcases List.mem_cons.1 h with h | h
    ·omega
    ·have:=nva _ (hla.old h (by omega)); omega
   simp only at hJb9;cases bo with
   | false =>
    simp only [Bool.false_eq_true,if_false] at hres;obtain rfl:=JB hres;subst hva;refine .inr ⟨_,_,_,66,#[pt b2],rfl,by simp,by simp [go_sem],(jE' hbe hlo h2b hOb hlB hJb9 k02 k2b (by omega)).mono ?_⟩;rintro e u' w' ⟨he,rfl,h⟩;exact ⟨he,rfl,h (false,m9) rfl⟩
   | true =>
    simp only [if_true] at hres;refine i6 ?_;exact ⟨(z + 1,m9,v9),by simp only; omega,rfl,⟨rfl,rfl,rfl,rfl,trivial⟩,by show z + 1 <= _; omega,by simp only; omega,hOb,hlB,hJb9,k2b,h2b,h3b,hres⟩
  have g3:¬ (j:Int) < (x.ctors.length:Int):=g3;rw [JY (by omega)] at hres;simp only [kZ'] at hres;obtain rfl:=JB hres;subst hva;refine .inr ⟨_,_,_,66,#[pt b2],rfl,by simp,by simp [go_sem],(jE' hbe hlo h2a hOa hla hJa k02 k2a (by omega)).mono ?_⟩;rintro e u' w' ⟨he,rfl,h⟩;exact ⟨he,rfl,h (true,m) rfl⟩
end
def nv' (B:BoT) (t:Tr) (n:Nat):Option (Bool × Nat) :=
 match dj' B [] t n with
 | .error _=>none
 | .ok p=>if st' B p.1 = true then iB' B 100 [] (headT p.1).n.a p.2 else none
section
variable {B:BoT} {X:List Nat} {w:World}
theorem oa' (hB:GoodB B) {bj n:Nat} (hX:XL X w) (hbj:bj ∈ X) (hJ:EraC (Im X w) w bj B n (.slice none 0 0)) (hn:n <= 100000) {t:Tr} (ht:Ft (QB B) 0 t) {v v0:Value} {b1 b2:Nat} {T1:Nat} (hb2:b2 ∈ X) (hne:b2 ≠ bj)
  (h1:Bk w.heap b1 [v] T1) (h2:Bk w.heap b2 [v0] 4) (hv:TmV (Im X w) t v) {q:Bool × Nat} (hq:nv' B t n = some q) :
  CC 31 #[pt bj,pt b1,pt b2] w (fun e w'=>oj' (.ok q:Except Int (Bool × Nat)) (fun q=>(∃ v,e = .returned v) /\ Bk w'.heap b2 [.bool q.1] 4 /\ (∃ va,EraC (Im X w') w' bj B q.2 va) /\ Kp [bj,b2] w w') (fun er=>e = .panicked (kN' er) /\ Kp [bj] w w')):=by
 refine oF Tryz.func31 ?_;obtain ⟨_,_,rfl,_,_⟩:=id hv;unfold nv' at hq;refine cO (args:=[_,_,_]) 20 [] τok Tryz.func31 ?_;refine lb h1 ?_;refine ab' (jx' (cx:=[]) hB (gZ' (l:=[]) (by simp)) (by simp) hX hbj hJ ht (SV.nil _ _) hv) ?_;rintro e w1 he;rcases he.cs with ⟨er,hz,rfl,hk1⟩ | ⟨⟨z,m⟩,u,hz,rfl,hu,hJ1,hk1⟩
 ·rw [hz] at hq
  cases hq
 obtain ⟨_,hm,hzF⟩:=cQ' hB (gZ' (l:=[]) (by simp)) ht hz;rw [hz] at hq;simp only at hq hu hJ1 hm hzF;split at hq
 case isFalse=>cases hq
 rename_i hbare;simp only [st',Bool.and_eq_true,decide_eq_true_eq,List.isEmpty_iff] at hbare;obtain ⟨h9,hfz,hpz,hqz,haz⟩:=hbare;have hX1:=xU hX hk1;refine ab' (qA' hB hX1 hbj hJ1 hzF h9 hfz hpz hqz haz hu) ?_;rintro e w2 ⟨⟨ad,cd,rfl⟩,hk2⟩;refine new fun b4 w3 hb4 h4 hs3 hk3=>?_;refine stN (vs:=[iV (headT z).n.a,.slice ad 0 cd]) h4 rfl (by simp [Value.oneCell']) fun w4 h4 hs4 hk4=>?_;have h4:Bk w4.heap b4 [iV (headT z).n.a,.slice ad 0 cd] 75:=h4;have k24:=hk3.newSt hb4 hk4;have k14:Kp [] w1 w4:=hk2.tr k24;have k04:Kp [bj] w w4:=hk1.tr k14;have hX4:=xU hX1 k14;have hJ4:EraC (Im X w4) w4 bj B m (.slice none 0 0):=(hJ1.mono fun b o v h=>h.tr k14).kp k14 (by simp);refine ldN [iV (headT z).n.a,.slice ad 0 cd] rfl (bZ h4) ?_;refine ab' (su' hB 100 [] (by simp) (lo:=w4.heap.size) hX4 hbj (hX4 bj hbj) (Own.nil _ _ (KJ _)) hJ4 (by omega) hq) ?_;rintro e w5 ⟨rfl,⟨va',hO5,hl5,hJ5⟩,hk5⟩;have hk5:Kp [bj] w4 w5:=hk5;have k05:Kp [bj] w w5:=k04.tq hk5;have hfin:∀ w6,Bk w6.heap b2 [.bool q.1] 4 -> Kp [b2] w5 w6 -> (∃ v,Ending.returned (Value.tuple #[]) = .returned v) /\ Bk w6.heap b2 [.bool q.1] 4 /\ (∃ va,EraC (Im X w6) w6 bj B q.2 va) /\ Kp [bj,b2] w w6:=fun w6 h6 k6 =>
  ⟨⟨_,rfl⟩,h6,⟨va',(hJ5.mono fun b o v h=>Im.kb k6 hb2 b o v (h.less fun y hy=>List.mem_append_right _ hy)).kp k6 (by simpa using Ne.symm hne)⟩,(k05.weak (by simp)).trans k6 fun x hx _=>by simp at hx; simp [hx]⟩
 refine st (b:=b2) (o:=0) (h2.kp k05 (by simpa using hne)) (by simp) rfl fun w6 h6 hs6 hk6=>?_;exact hfin w6 h6 hk6
def FstR (w:World) (q:Bool × Nat) (e:Ending) (w':World):Prop:=e = .returned (.tuple #[.bool q.1,iV (q.2:Int),iV 0]) /\ Kp [] w w'
variable {t:List Nd}
theorem qB' (hX:XL X w) {fuel:Int} {vb v:Value} (hb:BoV (Im X w) B vb) (hv:SV rNd (Im X w) t v) (hfit:bG' B [] t = 0) {q:Bool × Nat} (hq:nv' B (tr t) (aI' fuel) = some q) :
  CC 16 #[vb,v,iV fuel] w (FstR w q):=by
 refine oF Tryz.func16 ?_;obtain ⟨hB,hr,hl,hce,hcx,hte,hft⟩:=ju' hfit;have hbf:bg' B 0 t = 0:=by
  unfold bG' at hfit;rw [if_neg (by rw [hr]; exact fun h=>h rfl),if_neg (by simp),if_neg (by simp [cN'])] at hfit;exact hfit
 have hbb:=hb;obtain ⟨v1,v2,v3,rfl,_,_,_⟩:=hbb;obtain ⟨av,cv,rfl,_,_⟩:=id hv;refine cO (args:=[_,_,_]) 29 [.tmp 6,.tmp 7,.tmp 8] τok Tryz.func16 ?_;refine new fun b4 w1 hb4 h4 hs1 hk1=>?_;have h4:Bk w1.heap b4 [iV B.vars,v1,v2,iV B.nat,v3] 26:=h4;refine new fun b6 w3 hb6 h6 hs3 hk3=>?_;have h6:Bk w3.heap b6 [.slice av t.length cv] 29:=h6;have k03:=hk1.tr hk3;have h4:=h4.kp hk3 (by simp);have up3:∀ b o v,Im X w b o v -> Im X w3 b o v:=fun b o v h=>h.tr k03;refine ldN [iV B.vars,v1,v2,iV B.nat,v3] rfl (bZ h4) ?_;refine lb h6 ?_;refine ab' (fc' (Im.sub X w3) (fun _ _ _ h=>h.hold) (hb.mono up3) (hv.mono up3) (below:=0) (by unfold I64; omega)) ?_;rintro e w4 ⟨rfl,hk4⟩;have k04:=k03.tr hk4;rw [hbf];have hnew:w.heap.size <= b4 /\ b4 < b6 /\ b6 < w4.heap.size:=by
  have:=hk1.size;have:=hk3.size;have:=hk4.size;have:=h6.lt;omega
 refine new fun b12 w5 hb12 h12 hs5 hk5=>?_;refine st (b:=b12) (o:=0) h12 (by simp) rfl fun w5b h12 hs5b hk5b=>?_;have h12:Bk w5b.heap b12 [.bool false] 4:=h12;have hk5:=hk5.newSt hb12 hk5b;have k35:=hk4.tr hk5;have k05:=k03.tr k35;have h4:=h4.kp k35 (by simp);have h6:=h6.kp k35 (by simp);refine ldN [iV B.vars,v1,v2,iV B.nat,v3] rfl (bZ h4) ?_;have hX5:∀ b ∈ b12 :: X,b < w5b.heap.size:=fun b hb=>by
  rcases List.mem_cons.1 hb with rfl | hb
  ·exact h12.lt
  ·exact KZ (hX b hb) k05.size
 have up:∀ b o v,Im X w b o v -> Im (b12 :: X) w5b b o v:=fun b o v h=>(Im.more (X:=X) (Y:=b12 :: X) (fun y hy=>by
  rcases List.mem_cons.1 hy with rfl | hy
  ·exact .inr (by omega)
  ·exact .inl hy) h).tr k05
 have hcl':=ee' fuel;have hlk:=lW' (B:=B) (X:=b12 :: X) (w:=w5b) (fid:=31) (caps:=#[pt b6,pt b12]) (fuel:=fuel) (Y:=[b12]) (.ok q) (fun X' w' q=>Bk w'.heap b12 [.bool q] 4) hX5 (by simp) (hb.mono up)
  (fun X' w2 w3 q Z k hZ h=>h.kp k fun hm=>(hZ _ hm).2 (by simp))
  (fun X' bj w6 k56 hXX hXn hX6 hbj hbjn hJ=>by
   have upc:∀ b o v,Im (b12 :: X) w5b b o v -> Im X' w6 b o v:=fun b o v h=>(Im.more (Y:=X') (fun y hy=>hXn y hy) h).tr k56;exact oa' (t:=tr t) hB hX6 hbj hJ hcl' hft (hXX b12 (by simp)) (by have:=h12.lt; omega) (h6.kp k56 (by simp)) (h12.kp k56 (by simp)) (by unfold TmV; rw [<- hte]; exact hv.mono fun _ _ _ h=>upc _ _ _ (up _ _ _ h)) hq)
 refine ab' hlk ?_;intro e w6 he;obtain ⟨rfl,⟨X',hX',hu1⟩,hk6⟩:=he;refine lb hu1 ?_;exact ⟨rfl,k05.trans hk6 fun x hx hl=>by
  simp only [JJ,JZ,or_false] at hx;omega⟩
end
theorem aw1:kR' SB [] [⟨5,0,0⟩,⟨9,0,0⟩,⟨1,0,0⟩] 50 = .ok ([⟨23,0,0⟩,⟨21,0,0⟩],50):=by kernel_rfl
theorem aw2:kR' SB [] [⟨9,0,0⟩] 50 = .ok ([⟨22,0,0⟩],50):=by kernel_rfl
theorem aw3:dO' SB GE (tr [⟨10,1,0⟩]) (aI' 50) = some ([1,0],50):=by kernel_rfl
theorem aw4:nv' SB (tr [⟨9,1,0⟩]) (aI' 50) = some (true,48):=by kernel_rfl
theorem aw5:bG' SB [] [⟨9,1,0⟩] = 0:=by kernel_rfl
theorem aw6:bG' SB [] [⟨10,1,0⟩] = 0:=by kernel_rfl
theorem ez' {w:World} {b T:Nat} {l:List Nd} (hb:Bk w.heap b (l.flatMap fun m=>[iV m.op,iV m.a,iV m.b]) T) (hi:∀ m ∈ l,I64 m.op /\ I64 m.a /\ I64 m.b) (hl:l.length <= 1000):SV rNd (Im [] w) l (.slice (some ⟨b,0,none⟩) l.length l.length):=by
 refine ⟨_,_,rfl,⟨by omega,.inr ⟨b,0,rfl,fun i m hm=>⟨_,⟨rfl,hi m (JQ hm)⟩,fun j u hj=>⟨?_,by simp⟩⟩⟩⟩,KJ _⟩;rw [KW];refine hb.cl ?_;have:∀ (l:List Nd) (i:Nat),l[i]? = some m -> ∀ (j:Nat) u,[iV m.op,iV m.a,iV m.b][j]? = some u -> (l.flatMap fun m=>[iV m.op,iV m.a,iV m.b])[i * 3 + j]? = some u:=by
  intro l
  induction l with
  | nil=>intro i h; simp at h
  | cons a l ih =>
   intro i h j u hj;have hj3:=ai' hj;cases i with
   | zero =>
    simp only [List.getElem?_cons_zero,Option.some.injEq] at h;subst h;rw [Nat.zero_mul,KW,List.flatMap_cons,List.getElem?_append_left (by simpa using hj3)];exact hj
   | succ i =>
    simp only [List.getElem?_cons_succ] at h;have:=ih i h j u hj;rw [List.flatMap_cons,List.getElem?_append_right (by simp; omega)];rw [show (i + 1) * 3 + j - [iV a.op,iV a.a,iV a.b].length = i * 3 + j by simp; omega];exact this
 exact this l i hm j u hj
theorem qC' (w:World) :
  CC 6 #[] w (fun e w'=>e = .returned (.bool true) /\ Kp [] w w'):=by
 refine oF Tryz.func6 ?_;refine cO (args:=[]) 90 [.tmp 0] τok Tryz.func6 ?_;refine fill [iV 5,iV 0,iV 0,iV 9,iV 0,iV 0,iV 1,iV 0,iV 0] rfl ?_;refine new fun b1 w1 hb1 h1 hs1 hk1=>?_;have hr1:SV rNd (Im [] w1) [⟨5,0,0⟩,⟨9,0,0⟩,⟨1,0,0⟩] (.slice (some ⟨b1,0,none⟩) 3 3):=ez' h1 (by simp [I64]) (by decide);refine ab' (fj' w1) ?_;rintro e w2 ⟨⟨s2,rfl,hs2⟩,hk2⟩;refine ab' (ns' (X:=[]) (B:=SB) (c:=[]) (t:=[⟨5,0,0⟩,⟨9,0,0⟩,⟨1,0,0⟩]) (fuel:=50) (by simp) hs2 (SV.nil _ _) (hr1.mono fun _ _ _ h=>h.tr hk2)) ?_;rintro e w3 ⟨he,hk3⟩;rw [aw1] at he;obtain ⟨u3,rfl,hu3⟩:=he;obtain ⟨a3,c3,rfl,hu3,_⟩:=hu3;refine ab' (fj' w3) ?_;rintro e w4 ⟨⟨s4,rfl,hs4⟩,hk4⟩;refine fill [iV 9,iV 0,iV 0] rfl ?_;refine new fun b5 w5 hb5 h5 hs5 hk5=>?_;have hr5:SV rNd (Im [] w5) [⟨9,0,0⟩] (.slice (some ⟨b5,0,none⟩) 1 1):=ez' h5 (by simp [I64]) (by decide);refine ab' (ns' (X:=[]) (B:=SB) (c:=[]) (t:=[⟨9,0,0⟩]) (fuel:=50) (by simp) (hs4.mono fun _ _ _ h=>h.tr hk5) (SV.nil _ _) hr5) ?_;rintro e w6 ⟨he,hk6⟩;rw [aw2] at he;obtain ⟨u6,rfl,hu6⟩:=he;obtain ⟨a6,c6,rfl,hu6,_⟩:=hu6;obtain ⟨b6,o6,rfl,_,_,_,hc6⟩:=dB' hu6 (i:=0) (x:=⟨22,0,0⟩) rfl;refine ab' (fj' w6) ?_;rintro e w7 ⟨⟨s7,rfl,hs7⟩,hk7⟩;refine fill [iV 9,iV 1,iV 0] rfl ?_;refine new fun b8 w8 hb8 h8 hs8 hk8=>?_;have hr8:SV rNd (Im [] w8) [⟨9,1,0⟩] (.slice (some ⟨b8,0,none⟩) 1 1):=ez' h8 (by simp [I64]) (by decide);refine ab' (qB' (X:=[]) (B:=SB) (t:=[⟨9,1,0⟩]) (fuel:=50) (by simp) (hs7.mono fun _ _ _ h=>h.tr hk8) hr8 aw5 aw4) ?_;rintro e w9 ⟨rfl,hk9⟩;refine ab' (fj' w9) ?_;rintro e wa ⟨⟨sa,rfl,hsa⟩,hka⟩;refine fill [iV 10,iV 1,iV 0] rfl ?_;refine new fun bb wb hbb hBb hsb hkb=>?_;have hrb:SV rNd (Im [] wb) [⟨10,1,0⟩] (.slice (some ⟨bb,0,none⟩) 1 1):=ez' hBb (by simp [I64]) (by decide);refine ab' (nu' (X:=[]) (B:=SB) (t:=[⟨10,1,0⟩]) (fuel:=50) (by simp) (hsa.mono fun _ _ _ h=>h.tr hkb) hrb aw6 aw3 (by decide)) ?_;rintro e wc ⟨⟨uc,rfl,huc⟩,hkc⟩;obtain ⟨ac,cc,rfl,huc,_⟩:=huc;have k6c:=((((hk7.tr hk8).tr hk9).tr hka).tr hkb).tr hkc;have k3c:=((hk4.tr hk5).tr hk6).tr k6c;have k0c:=((hk1.tr hk2).tr hk3).tr k3c;refine fill [iV 23,iV 0,iV 0,iV 21,iV 0,iV 0] rfl ?_;refine new fun bd wd hbd hBd hsd hkd=>?_;have hrd:SV rNd (Im [] wd) [⟨23,0,0⟩,⟨21,0,0⟩] (.slice (some ⟨bd,0,none⟩) 2 2):=ez' hBd (by simp [I64]) (by decide);obtain ⟨ad,cd,ed,hrd,_⟩:=hrd;injection ed with q1 _ q2
 subst q1 q2;refine ab' (ss' (w:=wd) (C:=Im [] wd) (D:=Im [] wd) (Im.sub _ _) (Im.sub _ _) [⟨23,0,0⟩,⟨21,0,0⟩] [⟨23,0,0⟩,⟨21,0,0⟩] a3 (some ⟨bd,0,none⟩) c3 2 (hu3.mono fun _ _ _ h=>h.tr (k3c.tr hkd)) hrd) ?_;rintro e we ⟨rfl,hke⟩;rw [decide_eq_true rfl];refine ix 0 rfl (by decide) ?_;refine ld (((by simpa using hc6 0 _ rfl:Im [] w6 b6 (o6 + 0 * 3 + 0) (iV 22)).1.kp ((k6c.tr hkd).tr hke) (by simp)).cell) ?_;refine fill [.int .u8 1,.int .u8 0] rfl ?_;refine new fun bf wf hbf hBf hsf hkf=>?_;have hrf:SV rU8 (Im [] wf) [1,0] (.slice (some ⟨bf,0,none⟩) 2 2):=en' (css:=[[.int .u8 1],[.int .u8 0]]) hBf (fun _ _ h=>⟨h,by simp⟩) ⟨⟨rfl,by decide⟩,⟨rfl,by decide⟩,trivial⟩ (by decide);obtain ⟨af,cf,ef,hrf,_⟩:=hrf;injection ef with q1 _ q2
 subst q1 q2;have kcf:=(hkd.tr hke).tr hkf;refine ab' (kX' (w:=wf) (C:=Im [] wf) (D:=Im [] wf) (Im.sub _ _) (Im.sub _ _) [1,0] [1,0] ac (some ⟨bf,0,none⟩) cc 2 (huc.mono fun _ _ _ h=>h.tr kcf) hrf) ?_;rintro e wg ⟨rfl,hkg⟩;exact ⟨rfl,(k0c.tr kcf).tr hkg⟩
end Go.Proofs.YtmlnlmkmpgkekaaGreat
