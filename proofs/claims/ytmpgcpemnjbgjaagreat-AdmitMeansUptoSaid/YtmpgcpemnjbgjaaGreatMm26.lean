import Derived.Test.YtmpgcpemnjbgjaaGreatMm25
set_option linter.unusedVariables false
set_option linter.unusedSimpArgs false
set_option maxRecDepth 100000
set_option maxHeartbeats 4000000
namespace Go.Proofs.YtmpgcpemnjbgjaaGreat
open Go.Wx Cd Tm Lv
def fL' (B:BoT) (t y:Tr) (n:Nat):Except Int (Unit × Nat):=bdJ (cC' B [] y (n:Int)) fun _ n=>bJ' B [] t y (n:Int)
def sG' (B:BoT) (x:EnT) (i n:Nat):Except Int (Unit × Nat):=if x.kind = 1 then it' B (i:Int) (n:Int) else fL' B (tr x.body) (tr x.type) n
def hE' (B:BoT):List EnT -> Nat -> Nat -> Except Int (Unit × Nat)
 | [],_,n=>.ok ((),n)
 | x :: r,i,n=>bdJ (sG' B x i n) fun _ n=>hE' B r (i + 1) n
def jD' (B:BoT):List EnT -> Nat -> Nat -> Int
 | [],i,_=>i
 | x :: r,i,n=>match sG' B x i n with
  | .error _=>i
  | .ok q=>jD' B r (i + 1) q.2
def gX' (B:BoT) (p:Int × Int):Bool:=match gV' B p.2 with
 | .error _=>false
 | .ok q=>decide (q.1 = (entD B p.1).type) && decide (q.2 = (entD B p.1).body)
def cg' (B:BoT):List (Int × Int) -> Option Int
 | []=>none
 | p :: r=>if gX' B p = true then cg' B r else some p.1
def nM' (B:BoT) (n:Nat):Except Int (Unit × Nat):=bdJ (hE' B B.ents 0 n) fun _ n=>if cg' B B.prims = none then .ok ((),n) else .error 22
def kX' (B:BoT) (n:Nat):Int:=match hE' B B.ents 0 n with
 | .error _=>jD' B B.ents 0 n
 | .ok _=>(cg' B B.prims).getD B.ents.length
def GtC (w:World) (bg:Nat) (n:Nat) (at_ er:Int):Prop:=Bk w.heap bg [iV (n:Int),iV at_,iV er] 125
theorem ldNS {S:World -> Prop} {b o n:Nat} {k:Value -> Prop} (cs:List Value) (hn:cs.length = n) (h:∀ w',S w' -> ∀ j v,cs[j]? = some v -> Cl w'.heap b (o + j) v) (hk:k (.agg cs.toArray)):EvLdNQ S ⟨b,o,none⟩ n k:=by
 unfold EvLdNQ;refine ⟨cs,hn,fun w' hw j v hj=>?_,hk⟩;have:=(h w' hw j v hj).cell;unfold Addr.add;split
 ·rename_i h0
  subst h0
  simpa using this
 ·exact this
section
variable {w:World} {bg:Nat} {B:BoT} {n:Nat} {at_ er:Int} {X:List Nat}
theorem dq' (h:GtC w bg n at_ er) (left:Nat) (e:Int) :
  CC 78 #[pt bg,iV (left:Int),iV e] w (fun r w'=>r = .returned (.bool (decide (e = 0))) /\ GtC w' bg left at_ e /\ Kp [bg] w w'):=by
 refine oF Tryz.func78 ?_;refine cO (args:=[_,_,_]) 17 [.tmp 6] τok Tryz.func78 ?_;refine st (b:=bg) (o:=0) h (by simp) rfl fun w1 g1 hs1 hk1=>?_;refine st (b:=bg) (o:=2) g1 (by simp) rfl fun w2 g2 hs2 hk2=>?_;exact ⟨rfl,g2,hk1.tq hk2⟩
theorem kY' (hB:GoodB B) (hX:XL X w) (hbg:bg ∈ X) (hG:GtC w bg n at_ er) {t y:Tr} (ht:Ft (QB B) 0 t) (hy:Ft (QB B) 0 y) {vb vt vy:Value} (hvb:BoV (Im X w) B vb) (hvt:TmV (Im X w) t vt) (hvy:TmV (Im X w) y vy) :
  CC 45 #[pt bg,vb,vt,vy] w (fun e w'=>jI' (fL' B t y n) (fun q=>e = .returned (.bool true) /\ GtC w' bg q.2 at_ 0) (fun e'=>e = .returned (.bool false) /\ e' ≠ 0 /\ GtC w' bg 0 at_ e') /\ Kp [bg] w w'):=by
 refine oF Tryz.func45 ?_;unfold fL';have hvv:=hvb;obtain ⟨v1,v2,v3,rfl,hO,hE,hP⟩:=hvb;obtain ⟨at1,ct1,rfl,_,_⟩:=id hvt;obtain ⟨ay,cy,rfl,_,_⟩:=id hvy;have hbw:=hX bg hbg;refine cO (args:=[_,_,_,_]) 43 [.tmp 8] τok Tryz.func45 ?_;refine new fun b5 w1 hb5 h5 hs1 hk1=>?_;have h5:Bk w1.heap b5 [iV B.vars,v1,v2,iV B.nat,v3] 26:=h5;have hb5:b5 = w.heap.size:=hb5;have hG1:GtC w1 bg n at_ er:=Bk.kp hG hk1 (by simp);have up1:∀ b o v,Im X w b o v -> Im X w1 b o v:=fun b o v h=>h.tr hk1;have hX1:=xU hX hk1;refine am' τok (fun z=>Kp [] w1 z) ?_;refine rV τok (rg 0 6) 10 (mR 16 6) (kQd w1) ?_;refine aO' [iV B.vars,v1,v2,iV B.nat,v3] rfl (bZ h5) ?_;refine ldK (Bk.cl hG1 rfl) ?_;refine nV τok 6 9 (mR 16 7) ?_;refine ab' (pS' (w:=(dr w1)) (X:=X) (cx:=[]) (fuel:=(n:Int)) hB (fun i q hq=>by simp at hq) (by simp) hX1 hy (hvv.mono up1) (SV.nil _ _) (hvy.mono up1)) ?_;rintro e w2 ⟨he,hk2⟩;have hk2:Kp [] w1 w2:=hk2.rd;have k02:=hk1.tr hk2;have hG2:GtC w2 bg n at_ er:=Bk.kp hG1 hk2 (by simp);have h52:=h5.kp hk2 (by simp);cases hs:cC' B [] y (n:Int) with
 | error e' =>
  rw [hs] at he;obtain rfl:=he;have he':e' ≠ 0:=cO' (bl' hB GJ) hs;refine ⟨.inl hk2,?_⟩;refine rV τok (rg 7 9) 0 (mR 16 16) hk2 ?_;refine dV ?_;refine am' τok (fun z=>Kp [bg] w2 z) ?_;refine rV τok [0,1,2] 16 (mR 19 3) ((Kp.refl [bg] w2).dr _) ?_;refine nV τok 3 15 (mR 19 4) ?_;refine ab' (dq' (w:=(dr w2)) hG2 0 e') ?_;rintro r w3 ⟨rfl,hG3,hk3⟩;have hk3:Kp [bg] w2 w3:=hk3.rd;rw [decide_eq_false he'];refine ⟨.inl hk3,?_⟩;refine rV τok (rg 4 8) 7 (mR 19 12) hk3 ?_;refine nV τok 12 6 (mR 19 13) ?_;refine ⟨.inl hk3,?_⟩;refine nV τok 13 5 (mR 19 14) ?_;refine ⟨.inl hk3,?_⟩;refine rV τok [14,15] 3 (mR 19 16) hk3 ?_;refine nV τok 16 2 (mR 19 17) ?_;refine ⟨.inl hk3,?_⟩;refine rV τok [17,18] 0 (mR 19 19) hk3 ?_;refine dV ?_;exact ⟨⟨rfl,he',hG3⟩,(k02.weak (by simp)).tq hk3⟩
 | ok q =>
  rw [hs] at he;obtain ⟨al,cl,rfl,_⟩:=he;refine ⟨.inl hk2,?_⟩;refine rV τok (rg 7 9) 0 (mR 16 16) hk2 ?_;refine dV ?_;refine am' τok (fun z=>Kp [bg] w2 z) ?_;refine rV τok [0,1,2] 16 (mR 19 3) ((Kp.refl [bg] w2).dr _) ?_;refine nV τok 3 15 (mR 19 4) ?_;refine ab' (dq' (w:=(dr w2)) hG2 q.2 0) ?_;rintro r w3 ⟨rfl,hG3,hk3⟩;have hk3:Kp [bg] w2 w3:=hk3.rd;have k03:Kp [bg] w w3:=(k02.weak (by simp)).tq hk3;have up3:∀ b o v,Im X w b o v -> Im X w3 b o v:=fun b o v h=>Im.kb k03 hbg b o v h;have hX3:=xU hX k03;refine ⟨.inl hk3,?_⟩;refine rV τok (rg 4 8) 7 (mR 19 12) hk3 ?_;refine ldNS [iV B.vars,v1,v2,iV B.nat,v3] rfl (fun z hz j v hj=>by rw [Nat.zero_add]; exact (h52.kp hz (by simp; omega)).cl hj) ?_;refine nV τok 12 6 (mR 19 13) ?_;refine ld (Cl.cell (Bk.cl hG3 rfl)) ?_;refine ⟨.inl hk3,?_⟩;refine nV τok 13 5 (mR 19 14) ?_;refine ab' (na' (w:=w3) (X:=X) (cx:=[]) (fuel:=(q.2:Int)) hB (fun i q hq=>by simp at hq) (by simp) hX3 ht hy (hvv.mono up3) (SV.nil _ _) (hvt.mono up3) (hvy.mono up3)) ?_;rintro e w4 ⟨he,hk4⟩;have k24:Kp [bg] w2 w4:=hk3.tr hk4;have k04:Kp [bg] w w4:=k03.tr hk4;have hG4:GtC w4 bg q.2 at_ 0:=Bk.kp hG3 hk4 (by simp);have hbd:bdJ (.ok q:Except Int ((Int × List Atom) × Nat)) (fun _ n=>bJ' B [] t y (n:Int)) = bJ' B [] t y (q.2:Int):=rfl;rw [hbd];cases hc:bJ' B [] t y (q.2:Int) with
  | error e' =>
   rw [hc] at he;obtain rfl:=he;have he':e' ≠ 0:=de' (bl' hB GJ) hc;refine ⟨.inl k24,?_⟩;refine rV τok [14,15] 3 (mR 19 16) k24 ?_;refine nV τok 16 2 (mR 19 17) ?_;refine ab' (dq' hG4 0 e') ?_;rintro r w5 ⟨rfl,hG5,hk5⟩;rw [decide_eq_false he'];have k25:Kp [bg] w2 w5:=k24.tq hk5;refine ⟨.inl k25,?_⟩;refine rV τok [17,18] 0 (mR 19 19) k25 ?_;refine dV ?_;exact ⟨⟨rfl,he',hG5⟩,k04.tq hk5⟩
  | ok q2 =>
   rw [hc] at he;obtain rfl:=he;refine ⟨.inl k24,?_⟩;refine rV τok [14,15] 3 (mR 19 16) k24 ?_;refine nV τok 16 2 (mR 19 17) ?_;refine ab' (dq' hG4 q2.2 0) ?_;rintro r w5 ⟨rfl,hG5,hk5⟩;have k25:Kp [bg] w2 w5:=k24.tq hk5;refine ⟨.inl k25,?_⟩;refine rV τok [17,18] 0 (mR 19 19) k25 ?_;refine dV ?_;exact ⟨⟨rfl,hG5⟩,k04.tq hk5⟩
end
section
variable {B B':BoT} {P:Nd -> Prop} {cx:Ctx} {x:Tr}
structure CtA (B:BoT) (P:Nd -> Prop) (e:Int) (c:CtT):Prop where
 la:c.args.length <= 16
 lo:c.out.length = (qiM B e).length
 fa:∀ (i:Nat) y,(c.args.map tr)[i]? = some y -> Ft P (((psM B e).length + i:Nat):Int) y
 fo:∀ y ∈ c.out.map tr,Ft P (((psM B e).length + c.args.length:Nat):Int) y
def allJ' (B:BoT) (e:Int) (l:List CtT) (n:Nat):Except Int (Unit × Nat) :=
 bdJ (ft' B [] (tr (entD B e).sort) (n:Int)) fun _ n=>bdJ (kQ' B (psM B e) [] n) fun cp n=>bdJ (kQ' B (qiM B e) cp n) fun _ n=>ee' B e cp l n
end
section
variable {B B':BoT} {k:Nat} {s:Int}
end
theorem sa' {C:Mem} {B:BoT} {e:Int} {x:EnT} {v2:Value} (hE:SV rEn C B.ents v2) {i:Nat} (hx:B.ents[i]? = some x) :
  ∃ be oe ce,v2 = .slice (some ⟨be,oe,none⟩) B.ents.length ce /\ ∃ u1 u2 u3 u4 u5 u6,(∀ j v,[iV x.kind,u1,u2,u3,u4,u5,u6][j]? = some v -> C be (oe + i * 7 + j) v) /\ SV rNd C x.sort u1 /\ SV (rSk rNd) C x.params u2 /\ SV (rSk rNd) C x.indices u3 /\ SV rCt C x.ctors u4 /\ SV rNd C x.type u5 /\ SV rNd C x.body u6:=by
 obtain ⟨be,oe,ce,rfl,hat⟩:=hE.at hx;obtain ⟨u1,u2,u3,u4,u5,u6,h1,_,h2⟩:=dZ' hat;exact ⟨be,oe,ce,rfl,u1,u2,u3,u4,u5,u6,h1,h2⟩
theorem sH' {C:Mem} {x:EnT} {u1 u2 u3 u4 u5 u6:Value} (h1:SV rNd C x.sort u1) (h2:SV (rSk rNd) C x.params u2) (h3:SV (rSk rNd) C x.indices u3) (h4:SV rCt C x.ctors u4) (h5:SV rNd C x.type u5) (h6:SV rNd C x.body u6) :
  ∀ v ∈ [iV x.kind,u1,u2,u3,u4,u5,u6],v.oneCell' = true:=fun v hv=>by
 simp at hv;rcases hv with rfl | rfl | rfl | rfl | rfl | rfl | rfl
 ·rfl
 ·exact h1.one
 ·exact h2.one
 ·exact h3.one
 ·exact h4.one
 ·exact h5.one
 ·exact h6.one
def EtR (w':World) (bg:Nat) (at_:Int) (r:Except Int (Unit × Nat)) (e:Ending):Prop:=jI' r (fun q=>e = .returned (.bool true) /\ GtC w' bg q.2 at_ 0) (fun e'=>e = .returned (.bool false) /\ e' ≠ 0 /\ GtC w' bg 0 at_ e')
section
variable {w:World} {bg:Nat} {B:BoT} {n0:Nat} {at0:Int} {X:List Nat}
theorem ix' (hR:as' B = 0) (hX:XL X w) (hbg:bg ∈ X) (hG:GtC w bg n0 at0 0) {vb:Value} (hvb:BoV (Im X w) B vb) :
  CC 44 #[pt bg,vb] w (fun e w'=>EtR w' bg (kX' B n0) (nM' B n0) e /\ Kp [bg] w w'):=by
 refine oF Tryz.func44 ?_;obtain ⟨RES,hRES⟩:∃ r,nM' B n0 = r:=⟨_,rfl⟩
 obtain ⟨AT,hAT⟩:∃ r,kX' B n0 = r:=⟨_,rfl⟩
 rw [hRES,hAT];unfold nM' at hRES;unfold kX' at hAT;have hB:=cn' hR;obtain ⟨_,hpr⟩:=kW' hR;have hlen:=hB.len;have hvv:=hvb;obtain ⟨v1,v2,v3,rfl,hO,hE,hP⟩:=hvb;obtain ⟨ae,ce,rfl⟩:=hE.len;obtain ⟨ap,cp,rfl,hP1,hP2⟩:=id hP;have hbw:=hX bg hbg;have hpl:=hP1.1;refine cO (args:=[_,_]) 100 [.tmp 4] τok Tryz.func44 ?_;refine new fun b3 w1 hb3 h3 hs1 hk1=>?_;have h3:Bk w1.heap b3 [iV B.vars,v1,.slice ae B.ents.length ce,iV B.nat,.slice ap B.prims.length cp] 26:=h3;have hb3:b3 = w.heap.size:=hb3;have hG1:GtC w1 bg n0 at0 0:=Bk.kp hG hk1 (by simp);refine lb h3 ?_;refine loop τok (σ:=Nat × Nat × Int) (fun q=>[(0,pt bg),(3,pt b3),(14,.slice ae B.ents.length ce),(15,iV (B.ents.length:Int)),(16,iV (q.1:Int))])
  (fun q w'=>q.1 <= B.ents.length /\ hE' B B.ents 0 n0 = hE' B (B.ents.drop q.1) q.1 q.2.1 /\ jD' B B.ents 0 n0 = jD' B (B.ents.drop q.1) q.1 q.2.1 /\ GtC w' bg q.2.1 q.2.2 0 /\ Kp [bg] w1 w') (fun q=>B.ents.length - q.1) (0,n0,at0) ⟨rfl,rfl,rfl,rfl,rfl,trivial⟩
  ⟨Nat.zero_le _,rfl,rfl,hG1,Kp.refl _ _⟩ ?_
 rintro ⟨i,n,a0⟩ w2 ⟨hi,hr,ha,hG2,k12⟩;simp only at hi hr ha hG2;have k02:Kp [bg] w w2:=(hk1.weak (by simp)).tq k12;have h32:=h3.kp k12 (by simp; omega);refine ac' (fun c=>?_) (fun c=>?_)
 ·have hlt:i < B.ents.length:=by
   have:(i:Int) < B.ents.length:=c;omega
  obtain ⟨x,hx,hd⟩:=af' hlt;rw [hd] at hr ha;simp only [hE'] at hr;simp only [jD'] at ha;have hxD:entD B (i:Int) = x:=ek' hx;obtain ⟨be,oe,ce',e1,u1,u2,u3,u4,u5,u6,hcs,s1,s2,s3,s4,s5,s6⟩:=sa' (e:=0) hE hx;injection e1 with e1 _ e2
  subst e1 e2;have hone:=sH' s1 s2 s3 s4 s5 s6;have up2:∀ b o v,Im X w b o v -> Im X w2 b o v:=fun b o v h=>Im.kb k02 hbg b o v h;have hX2:=xU hX k02;refine ix i rfl hlt ?_;refine ldN [iV x.kind,u1,u2,u3,u4,u5,u6] rfl (fun j v hj=>(up2 _ _ _ (hcs j v hj)).1) ?_;refine new fun b6 w3 hb6 h6 hs3 hk3=>?_;refine stN (vs:=[iV x.kind,u1,u2,u3,u4,u5,u6]) h6 rfl hone fun w4 h6 hs4 hk4=>?_;have k24:=hk3.newSt hb6 hk4;have hb6:b6 = w2.heap.size:=hb6;have hG4:GtC w4 bg n a0 0:=Bk.kp hG2 k24 (by simp);have l12:=k12.size;have l02:=k02.size;refine st (b:=bg) (o:=1) hG4 (by simp) rfl fun w5 hG5 hs5 hk5=>?_;have hG5:GtC w5 bg n (i:Int) 0:=hG5;have k25:Kp [bg] w2 w5:=(k24.weak (by simp)).tq hk5;have k05:Kp [bg] w w5:=k02.tq k25;have h65:=h6.kp hk5 (by simp; omega);have h35:=h32.kp k25 (by simp; omega);have up5:∀ b o v,Im X w b o v -> Im X w5 b o v:=fun b o v h=>Im.kb k05 hbg b o v h;have hX5:=xU hX k05;have fin:∀ {e':Int} {w':World},sG' B x i n = .error e' -> e' ≠ 0 -> GtC w' bg 0 (i:Int) e' -> Kp [bg] w w' -> EtR w' bg AT RES (.returned (.bool false)) /\ Kp [bg] w w':=fun {e' w'} h he hg k=>by
   rw [h] at hr ha;have hr:hE' B B.ents 0 n0 = .error e':=hr;have ha:jD' B B.ents 0 n0 = (i:Int):=ha;rw [hr] at hRES hAT;have hRES:.error e' = RES:=hRES;have hAT:jD' B B.ents 0 n0 = AT:=hAT;subst hRES;rw [ha] at hAT;subst hAT;exact ⟨⟨rfl,he,hg⟩,k⟩
  have nxt:∀ {q:Unit × Nat},sG' B x i n = .ok q -> hE' B B.ents 0 n0 = hE' B (B.ents.drop (i + 1)) (i + 1) q.2 /\ jD' B B.ents 0 n0 = jD' B (B.ents.drop (i + 1)) (i + 1) q.2:=fun {q} h=>by
   rw [h] at hr ha;exact ⟨hr,ha⟩
  refine lb h65 ?_;refine ac' (fun g=>?_) (fun g=>?_)
  ·have g:x.kind = 1:=g
   have hJ:sG' B x i n = it' B (i:Int) (n:Int):=by unfold sG'; rw [if_pos g]
   refine am' τok (fun z=>Kp [bg] w5 z) ?_;refine rV τok (rg 0 6) 6 (mR 12 6) ((Kp.refl [bg] w5).dr _) ?_;refine ldNS [iV B.vars,v1,.slice (some ⟨be,oe,none⟩) B.ents.length ce,iV B.nat,.slice ap B.prims.length cp] rfl (fun z hz j v hj=>by rw [Nat.zero_add]; exact (h35.kp hz (by simp; omega)).cl hj) ?_;refine nV τok 6 5 (mR 12 7) ?_;refine ld (Cl.cell (Bk.cl hG5 rfl)) ?_;refine ⟨.inl ((Kp.refl [bg] w5).dr _),?_⟩;refine nV τok 7 4 (mR 12 8) ?_;refine ab' (lW' (w:=(dr w5)) (C:=Im X w5) (en:=(i:Int)) (Im.sub X w5) (fun _ _ _ h=>h.hold) (hvv.mono up5) (n:Int)) ?_;rintro e w6 ⟨he,hk6⟩;have hk6:Kp [] w5 w6:=hk6.rd;have k56:Kp [bg] w5 w6:=hk6.weak (by simp);have hG6:GtC w6 bg n (i:Int) 0:=Bk.kp hG5 hk6 (by simp);have k06:Kp [bg] w w6:=k05.tr hk6;cases hf:it' B (i:Int) (n:Int) with
   | error e' =>
    rw [hf] at he;obtain ⟨rfl,he'⟩:=he;refine ⟨.inl k56,?_⟩;refine rV τok [8,9] 2 (mR 12 10) k56 ?_;refine nV τok 10 1 (mR 12 11) ?_;refine ab' (dq' hG6 0 e') ?_;rintro r w7 ⟨rfl,hG7,hk7⟩;have k57:Kp [bg] w5 w7:=k56.tq hk7;refine ⟨.inl k57,?_⟩;refine rV τok [11] 0 (mR 12 12) k57 ?_;refine dV ?_;refine cS' (fun h=>absurd h he') (fun _=>?_);exact fin (hJ.trans hf) he' hG7 (k06.tq hk7)
   | ok q =>
    rw [hf] at he;obtain rfl:=he;refine ⟨.inl k56,?_⟩;refine rV τok [8,9] 2 (mR 12 10) k56 ?_;refine nV τok 10 1 (mR 12 11) ?_;refine ab' (dq' hG6 q.2 0) ?_;rintro r w7 ⟨rfl,hG7,hk7⟩;have k57:Kp [bg] w5 w7:=k56.tq hk7;refine ⟨.inl k57,?_⟩;refine rV τok [11] 0 (mR 12 12) k57 ?_;refine dV ?_;obtain ⟨q1,q2⟩:=nxt (hJ.trans hf);refine i6 ?_;exact ⟨(i + 1,q.2,(i:Int)),by simp only; omega,rfl,⟨rfl,rfl,rfl,rfl,rfl,trivial⟩,hlt,q1,q2,hG7,(k12.tq k25).tq k57⟩
  ·have g:¬ x.kind = 1:=g
   have hJ:sG' B x i n = fL' B (tr x.body) (tr x.type) n:=by unfold sG'; rw [if_neg g]
   obtain ⟨ty,bo,hD⟩:∃ ty bo,rn' B i x ty bo:=by
    rcases hB.ent i x hx with ⟨s,ps,qi,h⟩ | h
    ·exact absurd h.kind g
    ·exact h
   have hty:tr x.type = ty:=by rw [hD.type]; exact dw' hD.ft.ok
   have hbo:tr x.body = bo:=by rw [hD.body]; exact dw' hD.fb.ok
   rw [hty,hbo] at hJ;have hFt:Ft (QB B) 0 ty:=hD.ft.wk fun m hm=>cV' (Nat.le_of_lt hlt) hm;have hFb:Ft (QB B) 0 bo:=hD.fb.wk fun m hm=>cV' (Nat.le_of_lt hlt) hm;have s5':TmV (Im X w) ty u5:=by
    have:=s5;rw [hD.type] at this;exact this
   have s6':TmV (Im X w) bo u6:=by
    have:=s6;rw [hD.body] at this;exact this
   refine ldN [iV B.vars,v1,.slice (some ⟨be,oe,none⟩) B.ents.length ce,iV B.nat,.slice ap B.prims.length cp] rfl (bZ h35) ?_;refine lb h65 ?_;refine lb h65 ?_;refine ab' (kY' (w:=w5) hB hX5 hbg hG5 hFb hFt (hvv.mono up5) (s6'.mono up5) (s5'.mono up5)) ?_;rintro e w6 ⟨he,hk6⟩;have k06:Kp [bg] w w6:=k05.tq hk6;cases hf:fL' B bo ty n with
   | error e' =>
    rw [hf] at he;obtain ⟨rfl,he',hG6⟩:=he;exact fin (hJ.trans hf) he' hG6 k06
   | ok q =>
    rw [hf] at he;obtain ⟨rfl,hG6⟩:=he;obtain ⟨q1,q2⟩:=nxt (hJ.trans hf);refine i6 ?_;exact ⟨(i + 1,q.2,(i:Int)),by simp only; omega,rfl,⟨rfl,rfl,rfl,rfl,rfl,trivial⟩,hlt,q1,q2,hG6,(k12.tq k25).tq hk6⟩
 have c:¬ (i:Int) < B.ents.length:=c;rw [List.drop_eq_nil_of_le (by omega)] at hr;have hr:hE' B B.ents 0 n0 = .ok ((),n):=hr;rw [hr] at hRES hAT;have hRES:(if cg' B B.prims = none then .ok ((),n) else .error 22) = RES:=hRES;have hAT:(cg' B B.prims).getD (B.ents.length:Int) = AT:=hAT;have l12:=k12.size;refine lb h32 ?_;refine loop τok (σ:=Nat × Int) (fun q=>[(0,pt bg),(3,pt b3),(50,.slice ap B.prims.length cp),(51,iV (B.prims.length:Int)),(52,iV (q.1:Int))])
  (fun q w'=>q.1 <= B.prims.length /\ cg' B B.prims = cg' B (B.prims.drop q.1) /\ GtC w' bg n q.2 0 /\ Kp [bg] w2 w') (fun q=>B.prims.length - q.1) (0,a0) ⟨rfl,rfl,rfl,rfl,rfl,trivial⟩
  ⟨Nat.zero_le _,rfl,hG2,Kp.refl _ _⟩ ?_
 rintro ⟨k,a1⟩ w3 ⟨hk,hr,hG3,k23⟩;simp only at hk hr hG3;have k03:Kp [bg] w w3:=k02.tq k23;have h33:=h32.kp k23 (by simp; omega);have l03:=k03.size;have l23:=k23.size;refine ac' (fun c=>?_) (fun c=>?_)
 ·have hlt:k < B.prims.length:=by
   have:(k:Int) < B.prims.length:=c;omega
  obtain ⟨p,hp,hd⟩:=af' hlt;rw [hd] at hr;simp only [cg'] at hr;obtain ⟨p0,p1,pk⟩:=hpr p (List.mem_of_getElem? hp);obtain ⟨bp,op,rfl,hcp⟩:=hP1.at hlt;obtain ⟨cs,⟨rfl,i1,i2⟩,hcc⟩:=hcp k p hp;obtain ⟨be,oe,ce',e1,u1,u2,u3,u4,u5,u6,hcs,s1,s2,s3,s4,s5,s6⟩:=jz' (e:=p.1) hE p0 p1;injection e1 with e1 _ e2
  subst e1 e2;have hone:=sH' s1 s2 s3 s4 s5 s6;obtain ⟨a5,c5,rfl,s51,s52⟩:=id s5;obtain ⟨a6,c6,rfl,s61,s62⟩:=id s6;have up3:∀ b o v,Im X w b o v -> Im X w3 b o v:=fun b o v h=>Im.kb k03 hbg b o v h;refine ix k rfl hlt ?_;refine ldN [iV p.1,iV p.2] rfl (fun j v hj=>(up3 _ _ _ (hcc j v hj)).1) ?_;refine new fun b8 w4 hb8 h8 hs4 hk4=>?_;refine stN (vs:=[iV p.1,iV p.2]) h8 rfl (by simp [Value.oneCell']) fun w5 h8 hs5 hk5=>?_;have k35:=hk4.newSt hb8 hk5;have hb8:b8 = w3.heap.size:=hb8;have hG5:GtC w5 bg n a1 0:=Bk.kp hG3 k35 (by simp);refine lb h8 ?_;refine st (b:=bg) (o:=1) hG5 (by simp) rfl fun w6 hG6 hs6 hk6=>?_;have hG6:GtC w6 bg n p.1 0:=hG6;have k36:Kp [bg] w3 w6:=(k35.weak (by simp)).tq hk6;have k06:Kp [bg] w w6:=k03.tq k36;have h86:=h8.kp hk6 (by simp; omega);have h36:=h33.kp k36 (by simp; omega);have up6:∀ b o v,Im X w b o v -> Im X w6 b o v:=fun b o v h=>Im.kb k06 hbg b o v h;refine ldN [iV B.vars,v1,.slice (some ⟨be,oe,none⟩) B.ents.length ce,iV B.nat,.slice (some ⟨bp,op,none⟩) B.prims.length cp] rfl (bZ h36) ?_;refine lb h86 ?_;refine ab' (gW' (w:=w6) (C:=Im X w6) (Im.sub X w6) (fun _ _ _ h=>h.hold) (hvv.mono up6) p.2) ?_;rintro e w7 ⟨he,hk7⟩;have k07:Kp [bg] w w7:=k06.tr hk7;have hG7:GtC w7 bg n p.1 0:=Bk.kp hG6 hk7 (by simp);have h37:=h36.kp hk7 (by simp);have h87:=h86.kp hk7 (by simp);have up7:∀ b o v,Im X w b o v -> Im X w7 b o v:=fun b o v h=>Im.kb k07 hbg b o v h;have hpo:gX' B p = match gV' B p.2 with
   | .error _=>false
   | .ok q=>decide (q.1 = (entD B p.1).type) && decide (q.2 = (entD B p.1).body):=rfl
  cases hpm:gV' B p.2 with
  | error er =>
   rw [hpm] at he hpo;obtain ⟨rfl,her⟩:=he;have hpo:gX' B p = false:=hpo;refine lb h37 ?_;refine lb h87 ?_;refine ix p.1.toNat (by omega) (by omega) ?_;refine ldN [iV (entD B p.1).kind,u1,u2,u3,u4,.slice a5 (entD B p.1).type.length c5,.slice a6 (entD B p.1).body.length c6] rfl (fun j v hj=>(up7 _ _ _ (hcs j v hj)).1) ?_;refine new fun b12 w8 hb12 h12 hs8 hk8=>?_;refine stN (vs:=[iV (entD B p.1).kind,u1,u2,u3,u4,.slice a5 (entD B p.1).type.length c5,.slice a6 (entD B p.1).body.length c6]) h12 rfl hone fun w9 h12 hs9 hk9=>?_;have k79:=hk8.newSt hb12 hk9;have hG9:GtC w9 bg n p.1 0:=Bk.kp hG7 k79 (by simp);have k09:Kp [bg] w w9:=k07.tr k79;refine ar' (p:=er ≠ 0) her ?_;have hbad:cg' B B.prims = some p.1:=by rw [hr]; rw [if_neg (by rw [hpo]; decide)]
   refine ab' (dq' hG9 0 22) ?_;rintro r wz ⟨rfl,hGz,hkz⟩;rw [hbad] at hRES hAT;have hRES:.error 22 = RES:=hRES;have hAT:p.1 = AT:=hAT;subst hRES hAT;exact ⟨⟨rfl,by decide,hGz⟩,(k09).tq hkz⟩
  | ok q =>
   rw [hpm] at he hpo;obtain ⟨vt,vu,rfl,hvt,hvu⟩:=he;have hvt:RV w7 q.1 vt:=hvt.mono fun _ _ _ h=>⟨h.2.cl,by simp⟩
   have hvu:RV w7 q.2 vu:=hvu.mono fun _ _ _ h=>⟨h.2.cl,by simp⟩
   have hpo:gX' B p = (decide (q.1 = (entD B p.1).type) && decide (q.2 = (entD B p.1).body)):=hpo;obtain ⟨at1,ct1,rfl,ht1,ht2⟩:=id hvt;obtain ⟨au1,cu1,rfl,hu1,hu2⟩:=id hvu;refine lb h37 ?_;refine lb h87 ?_;refine ix p.1.toNat (by omega) (by omega) ?_;refine ldN [iV (entD B p.1).kind,u1,u2,u3,u4,.slice a5 (entD B p.1).type.length c5,.slice a6 (entD B p.1).body.length c6] rfl (fun j v hj=>(up7 _ _ _ (hcs j v hj)).1) ?_;refine new fun b12 w8 hb12 h12 hs8 hk8=>?_;refine stN (vs:=[iV (entD B p.1).kind,u1,u2,u3,u4,.slice a5 (entD B p.1).type.length c5,.slice a6 (entD B p.1).body.length c6]) h12 rfl hone fun w9 h12 hs9 hk9=>?_;have k79:=hk8.newSt hb12 hk9;have hG9:GtC w9 bg n p.1 0:=Bk.kp hG7 k79 (by simp);have k09:Kp [bg] w w9:=k07.tr k79;refine lb h12 ?_;have up9:∀ b o v,Im X w b o v -> Im X w9 b o v:=fun b o v h=>Im.kb k09 hbg b o v h;refine ab' (gd' (w:=w9) (C:=Im [] w9) (D:=Im X w9) (Im.sub [] w9) (Im.sub X w9) q.1 (entD B p.1).type at1 a5 ct1 c5 (ht1.mono fun _ _ _ h=>h.tr k79) (s51.mono up9)) ?_;rintro r wA ⟨rfl,hkA⟩;have hGA:GtC wA bg n p.1 0:=Bk.kp hG9 hkA (by simp);have k0A:Kp [bg] w wA:=k09.tr hkA;refine cS' (fun g=>?_) (fun g=>?_)
   ·refine lb (h12.kp hkA (by simp)) ?_
    have upA:∀ b o v,Im X w b o v -> Im X wA b o v:=fun b o v h=>Im.kb k0A hbg b o v h;refine ab' (gd' (w:=wA) (C:=Im [] wA) (D:=Im X wA) (Im.sub [] wA) (Im.sub X wA) q.2 (entD B p.1).body au1 a6 cu1 c6 ((hu1.mono fun _ _ _ h=>h.tr k79).mono fun _ _ _ h=>h.tr hkA) (s61.mono upA)) ?_;rintro r wB ⟨rfl,hkB⟩;have hGB:GtC wB bg n p.1 0:=Bk.kp hGA hkB (by simp);have k0B:Kp [bg] w wB:=k0A.tr hkB;refine cS' (fun g2=>?_) (fun g2=>?_)
    ·have hok:gX' B p = true:=by rw [hpo,decide_eq_true g,decide_eq_true g2]; rfl
     rw [if_pos hok] at hr;refine i6 ?_;exact ⟨(k + 1,p.1),by simp only; omega,rfl,⟨rfl,rfl,rfl,rfl,rfl,trivial⟩,hlt,hr,hGB,((((k23.tq k36).tr hk7).tr k79).tr hkA).tr hkB⟩
    ·have hpo:gX' B p = false:=by rw [hpo,decide_eq_false g2]; simp
     have hbad:cg' B B.prims = some p.1:=by rw [hr]; rw [if_neg (by rw [hpo]; decide)]
     refine ab' (dq' hGB 0 22) ?_;rintro r wz ⟨rfl,hGz,hkz⟩;rw [hbad] at hRES hAT;have hRES:.error 22 = RES:=hRES;have hAT:p.1 = AT:=hAT;subst hRES hAT;exact ⟨⟨rfl,by decide,hGz⟩,(k0B).tq hkz⟩
   ·have hpo:gX' B p = false:=by rw [hpo,decide_eq_false g]; rfl
    have hbad:cg' B B.prims = some p.1:=by rw [hr]; rw [if_neg (by rw [hpo]; decide)]
    refine ab' (dq' hGA 0 22) ?_;rintro r wz ⟨rfl,hGz,hkz⟩;rw [hbad] at hRES hAT;have hRES:.error 22 = RES:=hRES;have hAT:p.1 = AT:=hAT;subst hRES hAT;exact ⟨⟨rfl,by decide,hGz⟩,(k0A).tq hkz⟩
 have c:¬ (k:Int) < B.prims.length:=c;rw [List.drop_eq_nil_of_le (by omega)] at hr;have hr:cg' B B.prims = none:=hr;rw [hr] at hRES hAT;have hRES:.ok ((),n) = RES:=hRES;have hAT:(B.ents.length:Int) = AT:=hAT;subst hRES hAT;refine lb h33 ?_;refine st (b:=bg) (o:=1) hG3 (by simp) rfl fun w4 hG4 hs4 hk4=>?_;have hG4:GtC w4 bg n (B.ents.length:Int) 0:=hG4;exact ⟨⟨rfl,hG4⟩,k03.tq hk4⟩
end
structure PrT where
 book:BoT
 main:List Nd
 type:List Nd
def PrV (C:Mem) (x:PrT) (v:Value):Prop:=∃ v1 v2 v3 vm vt,v = .agg #[iV x.book.vars,v1,v2,iV x.book.nat,v3,vm,vt] /\ SV rOr C x.book.orders v1 /\ SV rEn C x.book.ents v2 /\ SV rPr C x.book.prims v3 /\ SV rNd C x.main vm /\ SV rNd C x.type vt
def qn' (x:PrT) (n:Nat):Except Int (Unit × Nat):=bdJ (nM' x.book n) fun _ n=>fL' x.book (tr x.main) (tr x.type) n
def qo' (x:PrT) (fuel:Int):Except Int (Unit × Nat):=if aE' x.book 0 x.main ≠ 0 then .error (aE' x.book 0 x.main) else if aE' x.book 0 x.type ≠ 0 then .error (aE' x.book 0 x.type) else qn' x (ax' fuel)
def kZ' (x:PrT) (fuel:Int):Int:=if aE' x.book 0 x.main ≠ 0 then 0 else if aE' x.book 0 x.type ≠ 0 then 0 else kX' x.book (ax' fuel)
def AnR (at_:Int) (r:Except Int (Unit × Nat)) (e:Ending):Prop:=jI' r (fun q=>e = .returned (.tuple #[iV at_,iV (q.2:Int),iV 0])) (fun er=>e = .returned (.tuple #[iV at_,iV 0,iV er]) /\ er ≠ 0)
section
variable {w:World} {bg:Nat} {n:Nat} {at_ er:Int}
theorem nn' (fuel:Int) (w:World) :
  CC 43 #[iV fuel] w (fun e w'=>∃ b,e = .returned (pt b) /\ b = w.heap.size /\ GtC w' b (ax' fuel) 0 0 /\ Kp [] w w'):=by
 refine oF Tryz.func43 ?_;refine cO (args:=[_]) 8 [.tmp 2] τok Tryz.func43 ?_;refine jQ' ?_;refine jR' ?_;obtain ⟨n,hn,hn1⟩:∃ n:Nat,min (max fuel 0) 100000 = (n:Int) /\ ax' fuel = n:=⟨_,by unfold ax'; omega,rfl⟩
 rw [hn,hn1];refine new fun b w1 hb hB hs hk=>?_;exact ⟨b,rfl,hb,hB,hk⟩
theorem dM' (hG:GtC w bg n at_ er) :
  CC 46 #[pt bg] w (fun e w'=>e = .returned (.tuple #[iV at_,iV (n:Int),iV er]) /\ Kp [] w w'):=by
 refine oF Tryz.func46 ?_;refine cO (args:=[_]) 17 [.tmp 2,.tmp 3,.tmp 4] τok Tryz.func46 ?_;refine am' τok (fun z=>Kp [] w z) ?_;refine rV τok (rg 0 15) 0 (mR 15 15) (kQd w) ?_;refine ldK (Bk.cl hG rfl) ?_;refine ldK (Bk.cl hG rfl) ?_;refine ldK (Bk.cl hG rfl) ?_;refine dV ?_;exact ⟨rfl,(Kp.refl [] w).dr _⟩
theorem iy' {C:Mem} (hS:Sub C w) (hold:∀ b o v,C b o v -> b < w.heap.size) {x:PrT} {v:Value} (hv:PrV C x v) (fuel:Int) :
  CC 20 #[v,iV fuel] w (fun e w'=>AnR (kZ' x fuel) (qo' x fuel) e /\ Kp [] w w'):=by
 refine oF Tryz.func20 ?_;obtain ⟨RES,hRES⟩:∃ r,qo' x fuel = r:=⟨_,rfl⟩
 obtain ⟨AT,hAT⟩:∃ r,kZ' x fuel = r:=⟨_,rfl⟩
 rw [hRES,hAT];unfold qo' at hRES;unfold kZ' at hAT;obtain ⟨v1,v2,v3,vm,vt,rfl,hO,hE,hP,hM,hT⟩:=hv;have hbo:BoV C x.book (.agg #[iV x.book.vars,v1,v2,iV x.book.nat,v3]):=⟨v1,v2,v3,rfl,hO,hE,hP⟩
 obtain ⟨am,cm,rfl,hM1,hM2⟩:=id hM;obtain ⟨at1,ct1,rfl,hT1,hT2⟩:=id hT;refine cO (args:=[_,_]) 48 [.tmp 4,.tmp 5,.tmp 6] τok Tryz.func20 ?_;refine new fun b2 w1 hb2 h2 hs1 hk1=>?_;have h2:Bk w1.heap b2 [iV x.book.vars,v1,v2,iV x.book.nat,v3,.slice am x.main.length cm,.slice at1 x.type.length ct1] 53:=h2;refine lb h2 ?_;refine lb h2 ?_;refine fill [.slice am x.main.length cm,.slice at1 x.type.length ct1] rfl ?_;refine new fun b15 w2 hb15 h15 hs2 hk2=>?_;have h15:Bk w2.heap b15 [.slice am x.main.length cm,.slice at1 x.type.length ct1] 35:=h15;have k02:=hk1.tr hk2;have h2:=h2.kp hk2 (by simp);have bk5:∀ {w':World},Bk w'.heap b2 [iV x.book.vars,v1,v2,iV x.book.nat,v3,.slice am x.main.length cm,.slice at1 x.type.length ct1] 53 -> ∀ j u,[iV x.book.vars,v1,v2,iV x.book.nat,v3][j]? = some u -> Cl w'.heap b2 (0 + j) u:=fun {w'} h j u hj=>by
  refine h.cl ?_;rw [Nat.zero_add]
  match j,hj with
  | 0,hj=>exact hj
  | 1,hj=>exact hj
  | 2,hj=>exact hj
  | 3,hj=>exact hj
  | 4,hj=>exact hj
  | j + 5,hj=>cases hj
 refine loop τok (σ:=Nat) (fun k=>[(1,iV fuel),(2,pt b2),(15,.slice (some ⟨b15,0,none⟩) 2 2),(16,iV 2),(17,iV (k:Int))])
  (fun k w'=>k <= 2 /\ (0 < k -> aE' x.book 0 x.main = 0) /\ (1 < k -> aE' x.book 0 x.type = 0) /\ Kp [] w2 w') (fun k=>2 - k) 0 ⟨rfl,rfl,rfl,rfl,rfl,trivial⟩ ⟨by omega,fun h=>by omega,fun h=>by omega,Kp.refl _ _⟩ ?_
 rintro k w3 ⟨hk,q1,q2,k23⟩;have k03:=k02.tr k23;have h23:=h2.kp k23 (by simp);have h153:=h15.kp k23 (by simp);refine ac' (fun c=>?_) (fun c=>?_)
 ·have c:(k:Int) < 2:=c
  match k,c,q1,q2 with
  | 0,_,q1,q2 =>
   refine ix 0 rfl (by omega) ?_;refine lb h153 ?_;refine ldN [iV x.book.vars,v1,v2,iV x.book.nat,v3] rfl (bk5 h23) ?_;refine ab' (eZ' (w:=w3) (C:=C) (hS.tr k03) (Kp.hold k03 hold) hbo hM (below:=0) ⟨by simp,by simp⟩) ?_;rintro e w4 ⟨rfl,hk4⟩
   by_cases g:aE' x.book 0 x.main ≠ 0
   ·rw [if_pos g] at hRES hAT
    subst hRES hAT;refine ar' g ?_;exact ⟨⟨rfl,g⟩,k03.tr hk4⟩
   refine bf' g ?_;have g:aE' x.book 0 x.main = 0:=Decidable.not_not.1 g;refine i6 ?_;exact ⟨1,by omega,rfl,⟨rfl,rfl,rfl,rfl,rfl,trivial⟩,by omega,fun _=>g,fun h=>by omega,k23.tr hk4⟩
  | 1,_,q1,q2 =>
   have g0:=q1 (by omega);rw [if_neg (by rw [g0]; simp)] at hRES hAT;refine ix 1 rfl (by omega) ?_;refine lb h153 ?_;refine ldN [iV x.book.vars,v1,v2,iV x.book.nat,v3] rfl (bk5 h23) ?_;refine ab' (eZ' (w:=w3) (C:=C) (hS.tr k03) (Kp.hold k03 hold) hbo hT (below:=0) ⟨by simp,by simp⟩) ?_;rintro e w4 ⟨rfl,hk4⟩
   by_cases g:aE' x.book 0 x.type ≠ 0
   ·rw [if_pos g] at hRES hAT
    subst hRES hAT;refine ar' g ?_;exact ⟨⟨rfl,g⟩,k03.tr hk4⟩
   refine bf' g ?_;have g:aE' x.book 0 x.type = 0:=Decidable.not_not.1 g;refine i6 ?_;exact ⟨2,by omega,rfl,⟨rfl,rfl,rfl,rfl,rfl,trivial⟩,by omega,fun _=>g0,fun _=>g,k23.tr hk4⟩
  | k + 2,c,_,_=>omega
 have c:¬ (k:Int) < 2:=c;have f1:=q1 (by omega);have f2:=q2 (by omega);rw [if_neg (by rw [f1]; simp),if_neg (by rw [f2]; simp)] at hRES hAT;obtain ⟨eM,hFm⟩:=nd' (by omega) f1;obtain ⟨eT,hFt⟩:=nd' (by omega) f2;have hR:as' x.book = 0:=by
  unfold aE' at f1;split at f1
  ·rename_i g; exact absurd f1 g
  ·rename_i g; exact Decidable.not_not.1 g
 have hB:=cn' hR;refine ab' (nn' fuel w3) ?_;rintro e w4 ⟨bg,rfl,hbg,hG4,hk4⟩;have k04:=k03.tr hk4;have h24:=h23.kp hk4 (by simp);have l03:=k03.size;have hbl:=Bk.lt hG4;have up4:∀ b o v,C b o v -> Im [bg] w4 b o v:=fun b o v h=>⟨hS.tr k04 _ _ _ h,fun hm=>by
  have:=hold _ _ _ h;simp at hm;omega⟩
 have hX4:∀ b ∈ [bg],b < w4.heap.size:=fun b hb=>by
  obtain rfl:b = bg:=by simpa using hb
  exact hbl
 have l4:=h24.lt;have hbb:b2 ≠ bg:=by
  have:=h23.lt;omega
 refine ldN [iV x.book.vars,v1,v2,iV x.book.nat,v3] rfl (bk5 h24) ?_;refine ab' (ix' (w:=w4) hR hX4 (by simp) hG4 (hbo.mono up4)) ?_;rintro e w5 ⟨he,k45⟩;have h25:=h24.kp k45 (by simpa using hbb);have k05:Kp [] w w5:=k04.trans k45 fun y hy hl=>by
  simp at hy;omega
 unfold EtR at he;cases hg:nM' x.book (ax' fuel) with
 | error e' =>
  rw [hg] at he;obtain ⟨rfl,he',hG5⟩:=he;have hr:qn' x (ax' fuel) = .error e':=by unfold qn'; rw [hg]; rfl
  rw [hr] at hRES;subst hRES hAT;refine ab' (dM' hG5) ?_;rintro e w6 ⟨rfl,hk6⟩;exact ⟨⟨rfl,he'⟩,k05.tr hk6⟩
 | ok q =>
  rw [hg] at he;obtain ⟨rfl,hG5⟩:=he;have hr:qn' x (ax' fuel) = fL' x.book (tr x.main) (tr x.type) q.2:=by unfold qn'; rw [hg]; rfl
  rw [hr] at hRES;have up5:∀ b o v,C b o v -> Im [bg] w5 b o v:=fun b o v h=>Im.kb k45 (by simp) b o v (up4 _ _ _ h);have hX5:∀ b ∈ [bg],b < w5.heap.size:=xU hX4 k45;refine ldN [iV x.book.vars,v1,v2,iV x.book.nat,v3] rfl (bk5 h25) ?_;refine lb h25 ?_;refine lb h25 ?_;have hMv:TmV (Im [bg] w5) (tr x.main) (.slice am x.main.length cm):=by unfold TmV; rw [<- eM]; exact hM.mono up5
  have hTv:TmV (Im [bg] w5) (tr x.type) (.slice at1 x.type.length ct1):=by unfold TmV; rw [<- eT]; exact hT.mono up5
  refine ab' (kY' (w:=w5) hB hX5 (by simp) hG5 hFm hFt (hbo.mono up5) hMv hTv) ?_;rintro e w6 ⟨he,k56⟩;have k06:Kp [] w w6:=k05.trans k56 fun y hy hl=>by
   simp at hy;omega
  cases hh:fL' x.book (tr x.main) (tr x.type) q.2 with
  | error e' =>
   rw [hh] at he hRES;obtain ⟨rfl,he',hG6⟩:=he;subst hRES hAT;refine ab' (dM' hG6) ?_;rintro e w7 ⟨rfl,hk7⟩;exact ⟨⟨rfl,he'⟩,k06.tr hk7⟩
  | ok q2 =>
   rw [hh] at he hRES;obtain ⟨rfl,hG6⟩:=he;subst hRES hAT;refine ab' (dM' hG6) ?_;rintro e w7 ⟨rfl,hk7⟩;exact ⟨rfl,k06.tr hk7⟩
end
def rT:List Nd:=[⟨2,1,1⟩,⟨3,0,0⟩]
def rI:List Nd:=[⟨9,0,0⟩]
def rX:List Nd:=[⟨4,0,0⟩,⟨9,0,0⟩,⟨9,0,0⟩]
def enB (r:List Nd):EnT:={ kind:=1,sort:=rT,params:=[],indices:=[],ctors:=[⟨[],[]⟩,⟨[r],[]⟩],type:=[],body:=[] }
def BN (r:List Nd) (nat:Int):BoT:=⟨0,[],[enB r],nat,[]⟩
def vk' (lim:Int):List (List Nd) -> Int -> Int
 | [],a=>a
 | l :: r,a=>if a < lim then vk' lim r (a + 1 + (l.length:Int)) else a
def szC (lim:Int):List CtT -> Int -> Int
 | [],a=>a
 | c :: r,a=>if a < lim then szC lim r (a + 1 + vk' lim c.args 0 + vk' lim c.out 0) else a
def szE (lim:Int):List EnT -> Int -> Int
 | [],a=>a
 | x :: r,a=>if a < lim then szE lim r (szC lim x.ctors (a + 1 + (x.sort.length:Int) + (x.type.length:Int) + (x.body.length:Int) + vk' lim x.params 0 + vk' lim x.indices 0)) else a
def sizeM (B:BoT) (lim:Int):Int:=szE lim B.ents ((B.orders.length:Int) + (B.prims.length:Int))
section
variable {C:Mem} {w:World} {B:BoT}
end
section
variable {w:World}
theorem fM' {α:Type} {R:Rd α} {b T:Nat} {x:α} {cs:List Value} (hb:Bk w.heap b cs T) (hd:R.den (Im [] w) cs x):SV R (Im [] w) [x] (.slice (some ⟨b,0,none⟩) 1 1):=by
 refine ⟨_,_,rfl,⟨by simp,.inr ⟨b,0,rfl,fun i y hy=>?_⟩⟩,by simp⟩
 match i,hy with
 | 0,hy =>
  obtain rfl:x = y:=by simpa using hy
  refine ⟨cs,hd,fun j v hj=>⟨?_,by simp⟩⟩;rw [Nat.zero_mul,Nat.add_zero,Nat.zero_add];exact hb.cl hj
 | i + 1,hy=>simp at hy
theorem sI' {α:Type} {R:Rd α} {b T:Nat} {x y:α} {cs ds:List Value} (hb:Bk w.heap b (cs ++ ds) T) (hd:R.den (Im [] w) cs x) (he:R.den (Im [] w) ds y):SV R (Im [] w) [x,y] (.slice (some ⟨b,0,none⟩) 2 2):=by
 have hl:=R.len hd;refine ⟨_,_,rfl,⟨by simp,.inr ⟨b,0,rfl,fun i z hz=>?_⟩⟩,by simp⟩
 match i,hz with
 | 0,hz =>
  obtain rfl:x = z:=by simpa using hz
  refine ⟨cs,hd,fun j v hj=>⟨?_,by simp⟩⟩;rw [Nat.zero_mul,Nat.add_zero,Nat.zero_add];exact hb.cl (by rw [List.getElem?_append_left (ai' hj)]; exact hj)
 | 1,hz =>
  obtain rfl:y = z:=by simpa using hz
  refine ⟨ds,he,fun j v hj=>⟨?_,by simp⟩⟩;rw [Nat.one_mul,Nat.zero_add];exact hb.cl (by rw [List.getElem?_append_right (by omega),hl,Nat.add_sub_cancel_left]; exact hj)
 | i + 2,hz=>simp at hz
def uk' (w:World) (b3 b7 b9 b11:Nat) (vr:Value):Prop :=
 Bk w.heap b3 [iV 2,iV 1,iV 1,iV 3,iV 0,iV 0] 43 /\ Bk w.heap b7 [vr] 35 /\ Bk w.heap b9 [.slice none 0 0,.slice none 0 0,.slice (some ⟨b7,0,none⟩) 1 1,.slice none 0 0] 41 /\
  Bk w.heap b11 [iV 1,.slice (some ⟨b3,0,none⟩) 2 2,.slice none 0 0,.slice none 0 0,.slice (some ⟨b9,0,none⟩) 2 2,.slice none 0 0,.slice none 0 0] 39
theorem wg' {b3:Nat} (h:Bk w.heap b3 [iV 2,iV 1,iV 1,iV 3,iV 0,iV 0] 43):SV rNd (Im [] w) rT (.slice (some ⟨b3,0,none⟩) 2 2) :=
 sI' (cs:=[iV 2,iV 1,iV 1]) (ds:=[iV 3,iV 0,iV 0]) h ⟨rfl,⟨by simp,by simp⟩,⟨by simp,by simp⟩,⟨by simp,by simp⟩⟩ ⟨rfl,⟨by simp,by simp⟩,⟨by simp,by simp⟩,⟨by simp,by simp⟩⟩
theorem tY' {b3 b7 b9 b11:Nat} {vr:Value} {r:List Nd} {nat:Int} (h:uk' w b3 b7 b9 b11 vr) (hr:SV rNd (Im [] w) r vr):BoV (Im [] w) (BN r nat) (.agg #[iV 0,.slice none 0 0,.slice (some ⟨b11,0,none⟩) 1 1,iV nat,.slice none 0 0]):=by
 obtain ⟨h3,h7,h9,h11⟩:=h;refine ⟨_,_,_,rfl,SV.nil _ _,fM' h11 ?_,SV.nil _ _⟩;obtain ⟨ar,cr,rfl,hr1,hr2⟩:=hr;have h71:SV (rSk rNd) (Im [] w) [r] (.slice (some ⟨b7,0,none⟩) 1 1):=fM' h7 ⟨_,_,rfl,hr2,hr1⟩;refine ⟨_,_,_,_,_,_,rfl,⟨by simp [enB],by simp [enB]⟩,wg' h3,SV.nil _ _,SV.nil _ _,?_,SV.nil _ _,SV.nil _ _⟩;exact sI' (cs:=[.slice none 0 0,.slice none 0 0]) (ds:=[.slice (some ⟨b7,0,none⟩) 1 1,.slice none 0 0]) h9 ⟨_,_,rfl,SV.nil _ _,SV.nil _ _⟩ ⟨_,_,rfl,h71,SV.nil _ _⟩
end
end Go.Proofs.YtmpgcpemnjbgjaaGreat
