import Derived.Test.YtmpgcpemnjbgjaaGreatMa23
set_option linter.unusedVariables false
set_option linter.unusedSimpArgs false
set_option maxRecDepth 100000
set_option maxHeartbeats 4000000
namespace Go.Proofs.YtmpgcpemnjbgjaaGreat
open Go.Wx Cd Tm Lv
def fi' (B:BoT) (t y:Tr) (n:Nat):Except Int (Unit × Nat):=bdJ (cd' B [] y (n:Int)) fun _ n=>br' B [] t y (n:Int)
def so' (B:BoT) (x:EnT) (i n:Nat):Except Int (Unit × Nat):=if x.kind = 1 then hC' B (i:Int) (n:Int) else fi' B (tr x.body) (tr x.type) n
def hI' (B:BoT):List EnT -> Nat -> Nat -> Except Int (Unit × Nat)
 | [],_,n=>.ok ((),n)
 | x :: r,i,n=>bdJ (so' B x i n) fun _ n=>hI' B r (i + 1) n
def jM' (B:BoT):List EnT -> Nat -> Nat -> Int
 | [],i,_=>i
 | x :: r,i,n=>match so' B x i n with
  | .error _=>i
  | .ok q=>jM' B r (i + 1) q.2
def hK' (B:BoT) (p:Int × Int):Bool:=match mk' B p.2 with
 | .error _=>false
 | .ok q=>decide (q.1 = (entD B p.1).type) && decide (q.2 = (entD B p.1).body)
def cg' (B:BoT):List (Int × Int) -> Option Int
 | []=>none
 | p :: r=>if hK' B p = true then cg' B r else some p.1
def ml' (B:BoT) (n:Nat):Except Int (Unit × Nat):=bdJ (hI' B B.ents 0 n) fun _ n=>if cg' B B.prims = none then .ok ((),n) else .error 22
def lj' (B:BoT) (n:Nat):Int:=match hI' B B.ents 0 n with
 | .error _=>jM' B B.ents 0 n
 | .ok _=>(cg' B B.prims).getD B.ents.length
def GtC (w:World) (bg:Nat) (n:Nat) (at_ er:Int):Prop:=Bk w.heap bg [iV (n:Int),iV at_,iV er] 125
theorem ldNS {S:World -> Prop} {b o n:Nat} {k:Value -> Prop} (cs:List Value) (hn:cs.length = n) (h:∀ w',S w' -> ∀ j v,cs[j]? = some v -> Cl w'.heap b (o + j) v) (hk:k (.agg cs.toArray)):EvLdNQ S ⟨b,o,none⟩ n k:=by
 unfold EvLdNQ;refine ⟨cs,hn,fun w' hw j v hj=>?_,hk⟩;have:=(h w' hw j v hj).cell;unfold Addr.add;split
 ·rename_i h0
  subst h0
  simpa using this
 ·exact this
section
variable {w:World} {bg:Nat} {B:BoT} {n:Nat} {at_ er:Int} {X:List Nat}
theorem dy' (h:GtC w bg n at_ er) (left:Nat) (e:Int) :
  CC 78 #[pt bg,iV (left:Int),iV e] w (fun r w'=>r = .returned (.bool (decide (e = 0))) /\ GtC w' bg left at_ e /\ Kp [bg] w w'):=by
 refine oF Tryz.func78 ?_;refine cO (args:=[_,_,_]) 17 [.tmp 6] τok Tryz.func78 ?_;refine st (b:=bg) (o:=0) h (by simp) rfl fun w1 g1 hs1 hk1=>?_;refine st (b:=bg) (o:=2) g1 (by simp) rfl fun w2 g2 hs2 hk2=>?_;exact ⟨rfl,g2,hk1.tq hk2⟩
theorem lk' (hB:GoodB B) (hX:XL X w) (hbg:bg ∈ X) (hG:GtC w bg n at_ er) {t y:Tr} (ht:Ft (QB B) 0 t) (hy:Ft (QB B) 0 y) {vb vt vy:Value} (hvb:BoV (Im X w) B vb) (hvt:TmV (Im X w) t vt) (hvy:TmV (Im X w) y vy) :
  CC 45 #[pt bg,vb,vt,vy] w (fun e w'=>jO' (fi' B t y n) (fun q=>e = .returned (.bool true) /\ GtC w' bg q.2 at_ 0) (fun e'=>e = .returned (.bool false) /\ e' ≠ 0 /\ GtC w' bg 0 at_ e') /\ Kp [bg] w w'):=by
 refine oF Tryz.func45 ?_;unfold fi';have hvv:=hvb;obtain ⟨v1,v2,v3,rfl,hO,hE,hP⟩:=hvb;obtain ⟨at1,ct1,rfl,_,_⟩:=id hvt;obtain ⟨ay,cy,rfl,_,_⟩:=id hvy;have hbw:=hX bg hbg;refine cO (args:=[_,_,_,_]) 43 [.tmp 8] τok Tryz.func45 ?_;refine new fun b5 w1 hb5 h5 hs1 hk1=>?_;have h5:Bk w1.heap b5 [iV B.vars,v1,v2,iV B.nat,v3] 26:=h5;have hb5:b5 = w.heap.size:=hb5;have hG1:GtC w1 bg n at_ er:=Bk.kp hG hk1 (by simp);have up1:∀ b o v,Im X w b o v -> Im X w1 b o v:=fun b o v h=>h.tr hk1;have hX1:=xU hX hk1;refine am' τok (fun z=>Kp [] w1 z) ?_;refine rV τok (rg 0 6) 10 (mR 16 6) (kQd w1) ?_;refine aQ' [iV B.vars,v1,v2,iV B.nat,v3] rfl (bZ h5) ?_;refine ldK (Bk.cl hG1 rfl) ?_;refine nV τok 6 9 (mR 16 7) ?_;refine ab' (qb' (w:=(dr w1)) (X:=X) (cx:=[]) (fuel:=(n:Int)) hB (fun i q hq=>by simp at hq) (by simp) hX1 hy (hvv.mono up1) (SV.nil _ _) (hvy.mono up1)) ?_;rintro e w2 ⟨he,hk2⟩;have hk2:Kp [] w1 w2:=hk2.rd;have k02:=hk1.tr hk2;have hG2:GtC w2 bg n at_ er:=Bk.kp hG1 hk2 (by simp);have h52:=h5.kp hk2 (by simp);cases hs:cd' B [] y (n:Int) with
 | error e' =>
  rw [hs] at he;obtain rfl:=he;have he':e' ≠ 0:=cS' (bm' hB GJ) hs;refine ⟨.inl hk2,?_⟩;refine rV τok (rg 7 9) 0 (mR 16 16) hk2 ?_;refine dV ?_;refine am' τok (fun z=>Kp [bg] w2 z) ?_;refine rV τok [0,1,2] 16 (mR 19 3) ((Kp.refl [bg] w2).dr _) ?_;refine nV τok 3 15 (mR 19 4) ?_;refine ab' (dy' (w:=(dr w2)) hG2 0 e') ?_;rintro r w3 ⟨rfl,hG3,hk3⟩;have hk3:Kp [bg] w2 w3:=hk3.rd;rw [decide_eq_false he'];refine ⟨.inl hk3,?_⟩;refine rV τok (rg 4 8) 7 (mR 19 12) hk3 ?_;refine nV τok 12 6 (mR 19 13) ?_;refine ⟨.inl hk3,?_⟩;refine nV τok 13 5 (mR 19 14) ?_;refine ⟨.inl hk3,?_⟩;refine rV τok [14,15] 3 (mR 19 16) hk3 ?_;refine nV τok 16 2 (mR 19 17) ?_;refine ⟨.inl hk3,?_⟩;refine rV τok [17,18] 0 (mR 19 19) hk3 ?_;refine dV ?_;exact ⟨⟨rfl,he',hG3⟩,(k02.weak (by simp)).tq hk3⟩
 | ok q =>
  rw [hs] at he;obtain ⟨al,cl,rfl,_⟩:=he;refine ⟨.inl hk2,?_⟩;refine rV τok (rg 7 9) 0 (mR 16 16) hk2 ?_;refine dV ?_;refine am' τok (fun z=>Kp [bg] w2 z) ?_;refine rV τok [0,1,2] 16 (mR 19 3) ((Kp.refl [bg] w2).dr _) ?_;refine nV τok 3 15 (mR 19 4) ?_;refine ab' (dy' (w:=(dr w2)) hG2 q.2 0) ?_;rintro r w3 ⟨rfl,hG3,hk3⟩;have hk3:Kp [bg] w2 w3:=hk3.rd;have k03:Kp [bg] w w3:=(k02.weak (by simp)).tq hk3;have up3:∀ b o v,Im X w b o v -> Im X w3 b o v:=fun b o v h=>Im.kb k03 hbg b o v h;have hX3:=xU hX k03;refine ⟨.inl hk3,?_⟩;refine rV τok (rg 4 8) 7 (mR 19 12) hk3 ?_;refine ldNS [iV B.vars,v1,v2,iV B.nat,v3] rfl (fun z hz j v hj=>by rw [Nat.zero_add]; exact (h52.kp hz (by simp; omega)).cl hj) ?_;refine nV τok 12 6 (mR 19 13) ?_;refine ld (Cl.cell (Bk.cl hG3 rfl)) ?_;refine ⟨.inl hk3,?_⟩;refine nV τok 13 5 (mR 19 14) ?_;refine ab' (nm' (w:=w3) (X:=X) (cx:=[]) (fuel:=(q.2:Int)) hB (fun i q hq=>by simp at hq) (by simp) hX3 ht hy (hvv.mono up3) (SV.nil _ _) (hvt.mono up3) (hvy.mono up3)) ?_;rintro e w4 ⟨he,hk4⟩;have k24:Kp [bg] w2 w4:=hk3.tr hk4;have k04:Kp [bg] w w4:=k03.tr hk4;have hG4:GtC w4 bg q.2 at_ 0:=Bk.kp hG3 hk4 (by simp);have hbd:bdJ (.ok q:Except Int ((Int × List Atom) × Nat)) (fun _ n=>br' B [] t y (n:Int)) = br' B [] t y (q.2:Int):=rfl;rw [hbd];cases hc:br' B [] t y (q.2:Int) with
  | error e' =>
   rw [hc] at he;obtain rfl:=he;have he':e' ≠ 0:=dg' (bm' hB GJ) hc;refine ⟨.inl k24,?_⟩;refine rV τok [14,15] 3 (mR 19 16) k24 ?_;refine nV τok 16 2 (mR 19 17) ?_;refine ab' (dy' hG4 0 e') ?_;rintro r w5 ⟨rfl,hG5,hk5⟩;rw [decide_eq_false he'];have k25:Kp [bg] w2 w5:=k24.tq hk5;refine ⟨.inl k25,?_⟩;refine rV τok [17,18] 0 (mR 19 19) k25 ?_;refine dV ?_;exact ⟨⟨rfl,he',hG5⟩,k04.tq hk5⟩
  | ok q2 =>
   rw [hc] at he;obtain rfl:=he;refine ⟨.inl k24,?_⟩;refine rV τok [14,15] 3 (mR 19 16) k24 ?_;refine nV τok 16 2 (mR 19 17) ?_;refine ab' (dy' hG4 q2.2 0) ?_;rintro r w5 ⟨rfl,hG5,hk5⟩;have k25:Kp [bg] w2 w5:=k24.tq hk5;refine ⟨.inl k25,?_⟩;refine rV τok [17,18] 0 (mR 19 19) k25 ?_;refine dV ?_;exact ⟨⟨rfl,hG5⟩,k04.tq hk5⟩
end
theorem sp' {C:Mem} {B:BoT} {e:Int} {x:EnT} {v2:Value} (hE:SV rEn C B.ents v2) {i:Nat} (hx:B.ents[i]? = some x) :
  ∃ be oe ce,v2 = .slice (some ⟨be,oe,none⟩) B.ents.length ce /\ ∃ u1 u2 u3 u4 u5 u6,(∀ j v,[iV x.kind,u1,u2,u3,u4,u5,u6][j]? = some v -> C be (oe + i * 7 + j) v) /\ SV rNd C x.sort u1 /\ SV (rSk rNd) C x.params u2 /\ SV (rSk rNd) C x.indices u3 /\ SV rCt C x.ctors u4 /\ SV rNd C x.type u5 /\ SV rNd C x.body u6:=by
 obtain ⟨be,oe,ce,rfl,hat⟩:=hE.at hx;obtain ⟨u1,u2,u3,u4,u5,u6,h1,_,h2⟩:=dO' hat;exact ⟨be,oe,ce,rfl,u1,u2,u3,u4,u5,u6,h1,h2⟩
theorem tb' {C:Mem} {x:EnT} {u1 u2 u3 u4 u5 u6:Value} (h1:SV rNd C x.sort u1) (h2:SV (rSk rNd) C x.params u2) (h3:SV (rSk rNd) C x.indices u3) (h4:SV rCt C x.ctors u4) (h5:SV rNd C x.type u5) (h6:SV rNd C x.body u6) :
  ∀ v ∈ [iV x.kind,u1,u2,u3,u4,u5,u6],v.oneCell' = true:=fun v hv=>by
 simp at hv;rcases hv with rfl | rfl | rfl | rfl | rfl | rfl | rfl
 ·rfl
 ·exact h1.one
 ·exact h2.one
 ·exact h3.one
 ·exact h4.one
 ·exact h5.one
 ·exact h6.one
def EtR (w':World) (bg:Nat) (at_:Int) (r:Except Int (Unit × Nat)) (e:Ending):Prop:=jO' r (fun q=>e = .returned (.bool true) /\ GtC w' bg q.2 at_ 0) (fun e'=>e = .returned (.bool false) /\ e' ≠ 0 /\ GtC w' bg 0 at_ e')
section
variable {w:World} {bg:Nat} {B:BoT} {n0:Nat} {at0:Int} {X:List Nat}
theorem oa' (hR:aH' B = 0) (hX:XL X w) (hbg:bg ∈ X) (hG:GtC w bg n0 at0 0) {vb:Value} (hvb:BoV (Im X w) B vb) :
  CC 44 #[pt bg,vb] w (fun e w'=>EtR w' bg (lj' B n0) (ml' B n0) e /\ Kp [bg] w w'):=by
 refine oF Tryz.func44 ?_;obtain ⟨RES,hRES⟩:∃ r,ml' B n0 = r:=⟨_,rfl⟩
 obtain ⟨AT,hAT⟩:∃ r,lj' B n0 = r:=⟨_,rfl⟩
 rw [hRES,hAT];unfold ml' at hRES;unfold lj' at hAT;have hB:=fz' hR;obtain ⟨_,hpr⟩:=li' hR;have hlen:=hB.len;have hvv:=hvb;obtain ⟨v1,v2,v3,rfl,hO,hE,hP⟩:=hvb;obtain ⟨ae,ce,rfl⟩:=hE.len;obtain ⟨ap,cp,rfl,hP1,hP2⟩:=id hP;have hbw:=hX bg hbg;have hpl:=hP1.1;refine cO (args:=[_,_]) 100 [.tmp 4] τok Tryz.func44 ?_;refine new fun b3 w1 hb3 h3 hs1 hk1=>?_;have h3:Bk w1.heap b3 [iV B.vars,v1,.slice ae B.ents.length ce,iV B.nat,.slice ap B.prims.length cp] 26:=h3;have hb3:b3 = w.heap.size:=hb3;have hG1:GtC w1 bg n0 at0 0:=Bk.kp hG hk1 (by simp);refine lb h3 ?_;refine loop τok (σ:=Nat × Nat × Int) (fun q=>[(0,pt bg),(3,pt b3),(14,.slice ae B.ents.length ce),(15,iV (B.ents.length:Int)),(16,iV (q.1:Int))])
  (fun q w'=>q.1 <= B.ents.length /\ hI' B B.ents 0 n0 = hI' B (B.ents.drop q.1) q.1 q.2.1 /\ jM' B B.ents 0 n0 = jM' B (B.ents.drop q.1) q.1 q.2.1 /\ GtC w' bg q.2.1 q.2.2 0 /\ Kp [bg] w1 w') (fun q=>B.ents.length - q.1) (0,n0,at0) ⟨rfl,rfl,rfl,rfl,rfl,trivial⟩
  ⟨Nat.zero_le _,rfl,rfl,hG1,Kp.refl _ _⟩ ?_
 rintro ⟨i,n,a0⟩ w2 ⟨hi,hr,ha,hG2,k12⟩;simp only at hi hr ha hG2;have k02:Kp [bg] w w2:=(hk1.weak (by simp)).tq k12;have h32:=h3.kp k12 (by simp; omega);refine ac' (fun c=>?_) (fun c=>?_)
 ·have hlt:i < B.ents.length:=by
   have:(i:Int) < B.ents.length:=c;omega
  obtain ⟨x,hx,hd⟩:=af' hlt;rw [hd] at hr ha;simp only [hI'] at hr;simp only [jM'] at ha;have hxD:entD B (i:Int) = x:=eu' hx;obtain ⟨be,oe,ce',e1,u1,u2,u3,u4,u5,u6,hcs,s1,s2,s3,s4,s5,s6⟩:=sp' (e:=0) hE hx;injection e1 with e1 _ e2
  subst e1 e2;have hone:=tb' s1 s2 s3 s4 s5 s6;have up2:∀ b o v,Im X w b o v -> Im X w2 b o v:=fun b o v h=>Im.kb k02 hbg b o v h;have hX2:=xU hX k02;refine ix i rfl hlt ?_;refine ldN [iV x.kind,u1,u2,u3,u4,u5,u6] rfl (fun j v hj=>(up2 _ _ _ (hcs j v hj)).1) ?_;refine new fun b6 w3 hb6 h6 hs3 hk3=>?_;refine stN (vs:=[iV x.kind,u1,u2,u3,u4,u5,u6]) h6 rfl hone fun w4 h6 hs4 hk4=>?_;have k24:=hk3.newSt hb6 hk4;have hb6:b6 = w2.heap.size:=hb6;have hG4:GtC w4 bg n a0 0:=Bk.kp hG2 k24 (by simp);have l12:=k12.size;have l02:=k02.size;refine st (b:=bg) (o:=1) hG4 (by simp) rfl fun w5 hG5 hs5 hk5=>?_;have hG5:GtC w5 bg n (i:Int) 0:=hG5;have k25:Kp [bg] w2 w5:=(k24.weak (by simp)).tq hk5;have k05:Kp [bg] w w5:=k02.tq k25;have h65:=h6.kp hk5 (by simp; omega);have h35:=h32.kp k25 (by simp; omega);have up5:∀ b o v,Im X w b o v -> Im X w5 b o v:=fun b o v h=>Im.kb k05 hbg b o v h;have hX5:=xU hX k05;have fin:∀ {e':Int} {w':World},so' B x i n = .error e' -> e' ≠ 0 -> GtC w' bg 0 (i:Int) e' -> Kp [bg] w w' -> EtR w' bg AT RES (.returned (.bool false)) /\ Kp [bg] w w':=fun {e' w'} h he hg k=>by
   rw [h] at hr ha;have hr:hI' B B.ents 0 n0 = .error e':=hr;have ha:jM' B B.ents 0 n0 = (i:Int):=ha;rw [hr] at hRES hAT;have hRES:.error e' = RES:=hRES;have hAT:jM' B B.ents 0 n0 = AT:=hAT;subst hRES;rw [ha] at hAT;subst hAT;exact ⟨⟨rfl,he,hg⟩,k⟩
  have nxt:∀ {q:Unit × Nat},so' B x i n = .ok q -> hI' B B.ents 0 n0 = hI' B (B.ents.drop (i + 1)) (i + 1) q.2 /\ jM' B B.ents 0 n0 = jM' B (B.ents.drop (i + 1)) (i + 1) q.2:=fun {q} h=>by
   rw [h] at hr ha;exact ⟨hr,ha⟩
  refine lb h65 ?_;refine ac' (fun g=>?_) (fun g=>?_)
  ·have g:x.kind = 1:=g
   have hJ:so' B x i n = hC' B (i:Int) (n:Int):=by unfold so'; rw [if_pos g]
   refine am' τok (fun z=>Kp [bg] w5 z) ?_;refine rV τok (rg 0 6) 6 (mR 12 6) ((Kp.refl [bg] w5).dr _) ?_;refine ldNS [iV B.vars,v1,.slice (some ⟨be,oe,none⟩) B.ents.length ce,iV B.nat,.slice ap B.prims.length cp] rfl (fun z hz j v hj=>by rw [Nat.zero_add]; exact (h35.kp hz (by simp; omega)).cl hj) ?_;refine nV τok 6 5 (mR 12 7) ?_;refine ld (Cl.cell (Bk.cl hG5 rfl)) ?_;refine ⟨.inl ((Kp.refl [bg] w5).dr _),?_⟩;refine nV τok 7 4 (mR 12 8) ?_;refine ab' (mi' (w:=(dr w5)) (C:=Im X w5) (en:=(i:Int)) (Im.sub X w5) (fun _ _ _ h=>h.hold) (hvv.mono up5) (n:Int)) ?_;rintro e w6 ⟨he,hk6⟩;have hk6:Kp [] w5 w6:=hk6.rd;have k56:Kp [bg] w5 w6:=hk6.weak (by simp);have hG6:GtC w6 bg n (i:Int) 0:=Bk.kp hG5 hk6 (by simp);have k06:Kp [bg] w w6:=k05.tr hk6;cases hf:hC' B (i:Int) (n:Int) with
   | error e' =>
    rw [hf] at he;obtain ⟨rfl,he'⟩:=he;refine ⟨.inl k56,?_⟩;refine rV τok [8,9] 2 (mR 12 10) k56 ?_;refine nV τok 10 1 (mR 12 11) ?_;refine ab' (dy' hG6 0 e') ?_;rintro r w7 ⟨rfl,hG7,hk7⟩;have k57:Kp [bg] w5 w7:=k56.tq hk7;refine ⟨.inl k57,?_⟩;refine rV τok [11] 0 (mR 12 12) k57 ?_;refine dV ?_;refine cW' (fun h=>absurd h he') (fun _=>?_);exact fin (hJ.trans hf) he' hG7 (k06.tq hk7)
   | ok q =>
    rw [hf] at he;obtain rfl:=he;refine ⟨.inl k56,?_⟩;refine rV τok [8,9] 2 (mR 12 10) k56 ?_;refine nV τok 10 1 (mR 12 11) ?_;refine ab' (dy' hG6 q.2 0) ?_;rintro r w7 ⟨rfl,hG7,hk7⟩;have k57:Kp [bg] w5 w7:=k56.tq hk7;refine ⟨.inl k57,?_⟩;refine rV τok [11] 0 (mR 12 12) k57 ?_;refine dV ?_;obtain ⟨q1,q2⟩:=nxt (hJ.trans hf);refine i6 ?_;exact ⟨(i + 1,q.2,(i:Int)),by simp only; omega,rfl,⟨rfl,rfl,rfl,rfl,rfl,trivial⟩,hlt,q1,q2,hG7,(k12.tq k25).tq k57⟩
  ·have g:¬ x.kind = 1:=g
   have hJ:so' B x i n = fi' B (tr x.body) (tr x.type) n:=by unfold so'; rw [if_neg g]
   obtain ⟨ty,bo,hD⟩:∃ ty bo,rz' B i x ty bo:=by
    rcases hB.ent i x hx with ⟨s,ps,qi,h⟩ | h
    ·exact absurd h.kind g
    ·exact h
   have hty:tr x.type = ty:=by rw [hD.type]; exact dP' hD.ft.ok
   have hbo:tr x.body = bo:=by rw [hD.body]; exact dP' hD.fb.ok
   rw [hty,hbo] at hJ;have hFt:Ft (QB B) 0 ty:=hD.ft.wk fun m hm=>cY' (Nat.le_of_lt hlt) hm;have hFb:Ft (QB B) 0 bo:=hD.fb.wk fun m hm=>cY' (Nat.le_of_lt hlt) hm;have s5':TmV (Im X w) ty u5:=by
    have:=s5;rw [hD.type] at this;exact this
   have s6':TmV (Im X w) bo u6:=by
    have:=s6;rw [hD.body] at this;exact this
   refine ldN [iV B.vars,v1,.slice (some ⟨be,oe,none⟩) B.ents.length ce,iV B.nat,.slice ap B.prims.length cp] rfl (bZ h35) ?_;refine lb h65 ?_;refine lb h65 ?_;refine ab' (lk' (w:=w5) hB hX5 hbg hG5 hFb hFt (hvv.mono up5) (s6'.mono up5) (s5'.mono up5)) ?_;rintro e w6 ⟨he,hk6⟩;have k06:Kp [bg] w w6:=k05.tq hk6;cases hf:fi' B bo ty n with
   | error e' =>
    rw [hf] at he;obtain ⟨rfl,he',hG6⟩:=he;exact fin (hJ.trans hf) he' hG6 k06
   | ok q =>
    rw [hf] at he;obtain ⟨rfl,hG6⟩:=he;obtain ⟨q1,q2⟩:=nxt (hJ.trans hf);refine i6 ?_;exact ⟨(i + 1,q.2,(i:Int)),by simp only; omega,rfl,⟨rfl,rfl,rfl,rfl,rfl,trivial⟩,hlt,q1,q2,hG6,(k12.tq k25).tq hk6⟩
 have c:¬ (i:Int) < B.ents.length:=c;rw [List.drop_eq_nil_of_le (by omega)] at hr;have hr:hI' B B.ents 0 n0 = .ok ((),n):=hr;rw [hr] at hRES hAT;have hRES:(if cg' B B.prims = none then .ok ((),n) else .error 22) = RES:=hRES;have hAT:(cg' B B.prims).getD (B.ents.length:Int) = AT:=hAT;have l12:=k12.size;refine lb h32 ?_;refine loop τok (σ:=Nat × Int) (fun q=>[(0,pt bg),(3,pt b3),(50,.slice ap B.prims.length cp),(51,iV (B.prims.length:Int)),(52,iV (q.1:Int))])
  (fun q w'=>q.1 <= B.prims.length /\ cg' B B.prims = cg' B (B.prims.drop q.1) /\ GtC w' bg n q.2 0 /\ Kp [bg] w2 w') (fun q=>B.prims.length - q.1) (0,a0) ⟨rfl,rfl,rfl,rfl,rfl,trivial⟩
  ⟨Nat.zero_le _,rfl,hG2,Kp.refl _ _⟩ ?_
 rintro ⟨k,a1⟩ w3 ⟨hk,hr,hG3,k23⟩;simp only at hk hr hG3;have k03:Kp [bg] w w3:=k02.tq k23;have h33:=h32.kp k23 (by simp; omega);have l03:=k03.size;have l23:=k23.size;refine ac' (fun c=>?_) (fun c=>?_)
 ·have hlt:k < B.prims.length:=by
   have:(k:Int) < B.prims.length:=c;omega
  obtain ⟨p,hp,hd⟩:=af' hlt;rw [hd] at hr;simp only [cg'] at hr;obtain ⟨p0,p1,pk⟩:=hpr p (List.mem_of_getElem? hp);obtain ⟨bp,op,rfl,hcp⟩:=hP1.at hlt;obtain ⟨cs,⟨rfl,i1,i2⟩,hcc⟩:=hcp k p hp;obtain ⟨be,oe,ce',e1,u1,u2,u3,u4,u5,u6,hcs,s1,s2,s3,s4,s5,s6⟩:=jI' (e:=p.1) hE p0 p1;injection e1 with e1 _ e2
  subst e1 e2;have hone:=tb' s1 s2 s3 s4 s5 s6;obtain ⟨a5,c5,rfl,s51,s52⟩:=id s5;obtain ⟨a6,c6,rfl,s61,s62⟩:=id s6;have up3:∀ b o v,Im X w b o v -> Im X w3 b o v:=fun b o v h=>Im.kb k03 hbg b o v h;refine ix k rfl hlt ?_;refine ldN [iV p.1,iV p.2] rfl (fun j v hj=>(up3 _ _ _ (hcc j v hj)).1) ?_;refine new fun b8 w4 hb8 h8 hs4 hk4=>?_;refine stN (vs:=[iV p.1,iV p.2]) h8 rfl (by simp [Value.oneCell']) fun w5 h8 hs5 hk5=>?_;have k35:=hk4.newSt hb8 hk5;have hb8:b8 = w3.heap.size:=hb8;have hG5:GtC w5 bg n a1 0:=Bk.kp hG3 k35 (by simp);refine lb h8 ?_;refine st (b:=bg) (o:=1) hG5 (by simp) rfl fun w6 hG6 hs6 hk6=>?_;have hG6:GtC w6 bg n p.1 0:=hG6;have k36:Kp [bg] w3 w6:=(k35.weak (by simp)).tq hk6;have k06:Kp [bg] w w6:=k03.tq k36;have h86:=h8.kp hk6 (by simp; omega);have h36:=h33.kp k36 (by simp; omega);have up6:∀ b o v,Im X w b o v -> Im X w6 b o v:=fun b o v h=>Im.kb k06 hbg b o v h;refine ldN [iV B.vars,v1,.slice (some ⟨be,oe,none⟩) B.ents.length ce,iV B.nat,.slice (some ⟨bp,op,none⟩) B.prims.length cp] rfl (bZ h36) ?_;refine lb h86 ?_;refine ab' (qy' (w:=w6) (C:=Im X w6) (Im.sub X w6) (fun _ _ _ h=>h.hold) (hvv.mono up6) p.2) ?_;rintro e w7 ⟨he,hk7⟩;have k07:Kp [bg] w w7:=k06.tr hk7;have hG7:GtC w7 bg n p.1 0:=Bk.kp hG6 hk7 (by simp);have h37:=h36.kp hk7 (by simp);have h87:=h86.kp hk7 (by simp);have up7:∀ b o v,Im X w b o v -> Im X w7 b o v:=fun b o v h=>Im.kb k07 hbg b o v h;have hpo:hK' B p = match mk' B p.2 with
   | .error _=>false
   | .ok q=>decide (q.1 = (entD B p.1).type) && decide (q.2 = (entD B p.1).body):=rfl
  cases hpm:mk' B p.2 with
  | error er =>
   rw [hpm] at he hpo;obtain ⟨rfl,her⟩:=he;have hpo:hK' B p = false:=hpo;refine lb h37 ?_;refine lb h87 ?_;refine ix p.1.toNat (by omega) (by omega) ?_;refine ldN [iV (entD B p.1).kind,u1,u2,u3,u4,.slice a5 (entD B p.1).type.length c5,.slice a6 (entD B p.1).body.length c6] rfl (fun j v hj=>(up7 _ _ _ (hcs j v hj)).1) ?_;refine new fun b12 w8 hb12 h12 hs8 hk8=>?_;refine stN (vs:=[iV (entD B p.1).kind,u1,u2,u3,u4,.slice a5 (entD B p.1).type.length c5,.slice a6 (entD B p.1).body.length c6]) h12 rfl hone fun w9 h12 hs9 hk9=>?_;have k79:=hk8.newSt hb12 hk9;have hG9:GtC w9 bg n p.1 0:=Bk.kp hG7 k79 (by simp);have k09:Kp [bg] w w9:=k07.tr k79;refine au' (p:=er ≠ 0) her ?_;have hbad:cg' B B.prims = some p.1:=by rw [hr]; rw [if_neg (by rw [hpo]; decide)]
   refine ab' (dy' hG9 0 22) ?_;rintro r wz ⟨rfl,hGz,hkz⟩;rw [hbad] at hRES hAT;have hRES:.error 22 = RES:=hRES;have hAT:p.1 = AT:=hAT;subst hRES hAT;exact ⟨⟨rfl,by decide,hGz⟩,(k09).tq hkz⟩
  | ok q =>
   rw [hpm] at he hpo;obtain ⟨vt,vu,rfl,hvt,hvu⟩:=he;have hpo:hK' B p = (decide (q.1 = (entD B p.1).type) && decide (q.2 = (entD B p.1).body)):=hpo;obtain ⟨at1,ct1,rfl,ht1,ht2⟩:=id hvt;obtain ⟨au1,cu1,rfl,hu1,hu2⟩:=id hvu;refine lb h37 ?_;refine lb h87 ?_;refine ix p.1.toNat (by omega) (by omega) ?_;refine ldN [iV (entD B p.1).kind,u1,u2,u3,u4,.slice a5 (entD B p.1).type.length c5,.slice a6 (entD B p.1).body.length c6] rfl (fun j v hj=>(up7 _ _ _ (hcs j v hj)).1) ?_;refine new fun b12 w8 hb12 h12 hs8 hk8=>?_;refine stN (vs:=[iV (entD B p.1).kind,u1,u2,u3,u4,.slice a5 (entD B p.1).type.length c5,.slice a6 (entD B p.1).body.length c6]) h12 rfl hone fun w9 h12 hs9 hk9=>?_;have k79:=hk8.newSt hb12 hk9;have hG9:GtC w9 bg n p.1 0:=Bk.kp hG7 k79 (by simp);have k09:Kp [bg] w w9:=k07.tr k79;refine lb h12 ?_;have up9:∀ b o v,Im X w b o v -> Im X w9 b o v:=fun b o v h=>Im.kb k09 hbg b o v h;refine ab' (gl' (w:=w9) (C:=Im [] w9) (D:=Im X w9) (Im.sub [] w9) (Im.sub X w9) q.1 (entD B p.1).type at1 a5 ct1 c5 (ht1.mono fun _ _ _ h=>h.tr k79) (s51.mono up9)) ?_;rintro r wA ⟨rfl,hkA⟩;have hGA:GtC wA bg n p.1 0:=Bk.kp hG9 hkA (by simp);have k0A:Kp [bg] w wA:=k09.tr hkA;refine cW' (fun g=>?_) (fun g=>?_)
   ·refine lb (h12.kp hkA (by simp)) ?_
    have upA:∀ b o v,Im X w b o v -> Im X wA b o v:=fun b o v h=>Im.kb k0A hbg b o v h;refine ab' (gl' (w:=wA) (C:=Im [] wA) (D:=Im X wA) (Im.sub [] wA) (Im.sub X wA) q.2 (entD B p.1).body au1 a6 cu1 c6 ((hu1.mono fun _ _ _ h=>h.tr k79).mono fun _ _ _ h=>h.tr hkA) (s61.mono upA)) ?_;rintro r wB ⟨rfl,hkB⟩;have hGB:GtC wB bg n p.1 0:=Bk.kp hGA hkB (by simp);have k0B:Kp [bg] w wB:=k0A.tr hkB;refine cW' (fun g2=>?_) (fun g2=>?_)
    ·have hok:hK' B p = true:=by rw [hpo,decide_eq_true g,decide_eq_true g2]; rfl
     rw [if_pos hok] at hr;refine i6 ?_;exact ⟨(k + 1,p.1),by simp only; omega,rfl,⟨rfl,rfl,rfl,rfl,rfl,trivial⟩,hlt,hr,hGB,((((k23.tq k36).tr hk7).tr k79).tr hkA).tr hkB⟩
    ·have hpo:hK' B p = false:=by rw [hpo,decide_eq_false g2]; simp
     have hbad:cg' B B.prims = some p.1:=by rw [hr]; rw [if_neg (by rw [hpo]; decide)]
     refine ab' (dy' hGB 0 22) ?_;rintro r wz ⟨rfl,hGz,hkz⟩;rw [hbad] at hRES hAT;have hRES:.error 22 = RES:=hRES;have hAT:p.1 = AT:=hAT;subst hRES hAT;exact ⟨⟨rfl,by decide,hGz⟩,(k0B).tq hkz⟩
   ·have hpo:hK' B p = false:=by rw [hpo,decide_eq_false g]; rfl
    have hbad:cg' B B.prims = some p.1:=by rw [hr]; rw [if_neg (by rw [hpo]; decide)]
    refine ab' (dy' hGA 0 22) ?_;rintro r wz ⟨rfl,hGz,hkz⟩;rw [hbad] at hRES hAT;have hRES:.error 22 = RES:=hRES;have hAT:p.1 = AT:=hAT;subst hRES hAT;exact ⟨⟨rfl,by decide,hGz⟩,(k0A).tq hkz⟩
 have c:¬ (k:Int) < B.prims.length:=c;rw [List.drop_eq_nil_of_le (by omega)] at hr;have hr:cg' B B.prims = none:=hr;rw [hr] at hRES hAT;have hRES:.ok ((),n) = RES:=hRES;have hAT:(B.ents.length:Int) = AT:=hAT;subst hRES hAT;refine lb h33 ?_;refine st (b:=bg) (o:=1) hG3 (by simp) rfl fun w4 hG4 hs4 hk4=>?_;have hG4:GtC w4 bg n (B.ents.length:Int) 0:=hG4;exact ⟨⟨rfl,hG4⟩,k03.tq hk4⟩
end
structure PrT where
 book:BoT
 main:List Nd
 type:List Nd
def PrV (C:Mem) (x:PrT) (v:Value):Prop:=∃ v1 v2 v3 vm vt,v = .agg #[iV x.book.vars,v1,v2,iV x.book.nat,v3,vm,vt] /\ SV rOr C x.book.orders v1 /\ SV rEn C x.book.ents v2 /\ SV rPr C x.book.prims v3 /\ SV rNd C x.main vm /\ SV rNd C x.type vt
theorem PrV.mono {C D:Mem} {x:PrT} {v:Value} (h:PrV C x v) (hc:∀ b o v,C b o v -> D b o v):PrV D x v:=by
 obtain ⟨v1,v2,v3,vm,vt,e,h1,h2,h3,h4,h5⟩:=h;exact ⟨v1,v2,v3,vm,vt,e,h1.mono hc,h2.mono hc,h3.mono hc,h4.mono hc,h5.mono hc⟩
def mm' (x:PrT) (n:Nat):Except Int (Unit × Nat):=bdJ (ml' x.book n) fun _ n=>fi' x.book (tr x.main) (tr x.type) n
def gb' (x:PrT) (fuel:Int):Except Int (Unit × Nat):=if bf' x.book 0 x.main ≠ 0 then .error (bf' x.book 0 x.main) else if bf' x.book 0 x.type ≠ 0 then .error (bf' x.book 0 x.type) else mm' x (aF' fuel)
def hL' (x:PrT) (fuel:Int):Int:=if bf' x.book 0 x.main ≠ 0 then 0 else if bf' x.book 0 x.type ≠ 0 then 0 else lj' x.book (aF' fuel)
def AnR (at_:Int) (r:Except Int (Unit × Nat)) (e:Ending):Prop:=jO' r (fun q=>e = .returned (.tuple #[iV at_,iV (q.2:Int),iV 0])) (fun er=>e = .returned (.tuple #[iV at_,iV 0,iV er]) /\ er ≠ 0)
section
variable {w:World} {bg:Nat} {n:Nat} {at_ er:Int}
theorem sq' (fuel:Int) (w:World) :
  CC 43 #[iV fuel] w (fun e w'=>∃ b,e = .returned (pt b) /\ b = w.heap.size /\ GtC w' b (aF' fuel) 0 0 /\ Kp [] w w'):=by
 refine oF Tryz.func43 ?_;refine cO (args:=[_]) 8 [.tmp 2] τok Tryz.func43 ?_;refine lu' ?_;refine jY' ?_;obtain ⟨n,hn,hn1⟩:∃ n:Nat,min (max fuel 0) 100000 = (n:Int) /\ aF' fuel = n:=⟨_,by unfold aF'; omega,rfl⟩
 rw [hn,hn1];refine new fun b w1 hb hB hs hk=>?_;exact ⟨b,rfl,hb,hB,hk⟩
theorem hN' (hG:GtC w bg n at_ er) :
  CC 46 #[pt bg] w (fun e w'=>e = .returned (.tuple #[iV at_,iV (n:Int),iV er]) /\ Kp [] w w'):=by
 refine oF Tryz.func46 ?_;refine cO (args:=[_]) 17 [.tmp 2,.tmp 3,.tmp 4] τok Tryz.func46 ?_;refine am' τok (fun z=>Kp [] w z) ?_;refine rV τok (rg 0 15) 0 (mR 15 15) (kQd w) ?_;refine ldK (Bk.cl hG rfl) ?_;refine ldK (Bk.cl hG rfl) ?_;refine ldK (Bk.cl hG rfl) ?_;refine dV ?_;exact ⟨rfl,(Kp.refl [] w).dr _⟩
theorem dk' {C:Mem} (hS:Sub C w) (hold:∀ b o v,C b o v -> b < w.heap.size) {x:PrT} {v:Value} (hv:PrV C x v) (fuel:Int) :
  CC 20 #[v,iV fuel] w (fun e w'=>AnR (hL' x fuel) (gb' x fuel) e /\ Kp [] w w'):=by
 refine oF Tryz.func20 ?_;obtain ⟨RES,hRES⟩:∃ r,gb' x fuel = r:=⟨_,rfl⟩
 obtain ⟨AT,hAT⟩:∃ r,hL' x fuel = r:=⟨_,rfl⟩
 rw [hRES,hAT];unfold gb' at hRES;unfold hL' at hAT;obtain ⟨v1,v2,v3,vm,vt,rfl,hO,hE,hP,hM,hT⟩:=hv;have hbo:BoV C x.book (.agg #[iV x.book.vars,v1,v2,iV x.book.nat,v3]):=⟨v1,v2,v3,rfl,hO,hE,hP⟩
 obtain ⟨am,cm,rfl,hM1,hM2⟩:=id hM;obtain ⟨at1,ct1,rfl,hT1,hT2⟩:=id hT;refine cO (args:=[_,_]) 48 [.tmp 4,.tmp 5,.tmp 6] τok Tryz.func20 ?_;refine new fun b2 w1 hb2 h2 hs1 hk1=>?_;have h2:Bk w1.heap b2 [iV x.book.vars,v1,v2,iV x.book.nat,v3,.slice am x.main.length cm,.slice at1 x.type.length ct1] 53:=h2;refine lb h2 ?_;refine lb h2 ?_;refine fill [.slice am x.main.length cm,.slice at1 x.type.length ct1] rfl ?_;refine new fun b15 w2 hb15 h15 hs2 hk2=>?_;have h15:Bk w2.heap b15 [.slice am x.main.length cm,.slice at1 x.type.length ct1] 35:=h15;have k02:=hk1.tr hk2;have h2:=h2.kp hk2 (by simp);have bk5:∀ {w':World},Bk w'.heap b2 [iV x.book.vars,v1,v2,iV x.book.nat,v3,.slice am x.main.length cm,.slice at1 x.type.length ct1] 53 -> ∀ j u,[iV x.book.vars,v1,v2,iV x.book.nat,v3][j]? = some u -> Cl w'.heap b2 (0 + j) u:=fun {w'} h j u hj=>by
  refine h.cl ?_;rw [Nat.zero_add]
  match j,hj with
  | 0,hj=>exact hj
  | 1,hj=>exact hj
  | 2,hj=>exact hj
  | 3,hj=>exact hj
  | 4,hj=>exact hj
  | j + 5,hj=>cases hj
 refine loop τok (σ:=Nat) (fun k=>[(1,iV fuel),(2,pt b2),(15,.slice (some ⟨b15,0,none⟩) 2 2),(16,iV 2),(17,iV (k:Int))])
  (fun k w'=>k <= 2 /\ (0 < k -> bf' x.book 0 x.main = 0) /\ (1 < k -> bf' x.book 0 x.type = 0) /\ Kp [] w2 w') (fun k=>2 - k) 0 ⟨rfl,rfl,rfl,rfl,rfl,trivial⟩ ⟨by omega,fun h=>by omega,fun h=>by omega,Kp.refl _ _⟩ ?_
 rintro k w3 ⟨hk,q1,q2,k23⟩;have k03:=k02.tr k23;have h23:=h2.kp k23 (by simp);have h153:=h15.kp k23 (by simp);refine ac' (fun c=>?_) (fun c=>?_)
 ·have c:(k:Int) < 2:=c
  match k,c,q1,q2 with
  | 0,_,q1,q2 =>
   refine ix 0 rfl (by omega) ?_;refine lb h153 ?_;refine ldN [iV x.book.vars,v1,v2,iV x.book.nat,v3] rfl (bk5 h23) ?_;refine ab' (nq' (w:=w3) (C:=C) (hS.tr k03) (Kp.hold k03 hold) hbo hM (below:=0) ⟨by simp,by simp⟩) ?_;rintro e w4 ⟨rfl,hk4⟩
   by_cases g:bf' x.book 0 x.main ≠ 0
   ·rw [if_pos g] at hRES hAT
    subst hRES hAT;refine au' g ?_;exact ⟨⟨rfl,g⟩,k03.tr hk4⟩
   refine bC' g ?_;have g:bf' x.book 0 x.main = 0:=Decidable.not_not.1 g;refine i6 ?_;exact ⟨1,by omega,rfl,⟨rfl,rfl,rfl,rfl,rfl,trivial⟩,by omega,fun _=>g,fun h=>by omega,k23.tr hk4⟩
  | 1,_,q1,q2 =>
   have g0:=q1 (by omega);rw [if_neg (by rw [g0]; simp)] at hRES hAT;refine ix 1 rfl (by omega) ?_;refine lb h153 ?_;refine ldN [iV x.book.vars,v1,v2,iV x.book.nat,v3] rfl (bk5 h23) ?_;refine ab' (nq' (w:=w3) (C:=C) (hS.tr k03) (Kp.hold k03 hold) hbo hT (below:=0) ⟨by simp,by simp⟩) ?_;rintro e w4 ⟨rfl,hk4⟩
   by_cases g:bf' x.book 0 x.type ≠ 0
   ·rw [if_pos g] at hRES hAT
    subst hRES hAT;refine au' g ?_;exact ⟨⟨rfl,g⟩,k03.tr hk4⟩
   refine bC' g ?_;have g:bf' x.book 0 x.type = 0:=Decidable.not_not.1 g;refine i6 ?_;exact ⟨2,by omega,rfl,⟨rfl,rfl,rfl,rfl,rfl,trivial⟩,by omega,fun _=>g0,fun _=>g,k23.tr hk4⟩
  | k + 2,c,_,_=>omega
 have c:¬ (k:Int) < 2:=c;have f1:=q1 (by omega);have f2:=q2 (by omega);rw [if_neg (by rw [f1]; simp),if_neg (by rw [f2]; simp)] at hRES hAT;obtain ⟨eM,hFm⟩:=no' (by omega) f1;obtain ⟨eT,hFt⟩:=no' (by omega) f2;have hR:aH' x.book = 0:=by
  unfold bf' at f1;split at f1
  ·rename_i g; exact absurd f1 g
  ·rename_i g; exact Decidable.not_not.1 g
 have hB:=fz' hR;refine ab' (sq' fuel w3) ?_;rintro e w4 ⟨bg,rfl,hbg,hG4,hk4⟩;have k04:=k03.tr hk4;have h24:=h23.kp hk4 (by simp);have l03:=k03.size;have hbl:=Bk.lt hG4;have up4:∀ b o v,C b o v -> Im [bg] w4 b o v:=fun b o v h=>⟨hS.tr k04 _ _ _ h,fun hm=>by
  have:=hold _ _ _ h;simp at hm;omega⟩
 have hX4:∀ b ∈ [bg],b < w4.heap.size:=fun b hb=>by
  obtain rfl:b = bg:=by simpa using hb
  exact hbl
 have l4:=h24.lt;have hbb:b2 ≠ bg:=by
  have:=h23.lt;omega
 refine ldN [iV x.book.vars,v1,v2,iV x.book.nat,v3] rfl (bk5 h24) ?_;refine ab' (oa' (w:=w4) hR hX4 (by simp) hG4 (hbo.mono up4)) ?_;rintro e w5 ⟨he,k45⟩;have h25:=h24.kp k45 (by simpa using hbb);have k05:Kp [] w w5:=k04.trans k45 fun y hy hl=>by
  simp at hy;omega
 unfold EtR at he;cases hg:ml' x.book (aF' fuel) with
 | error e' =>
  rw [hg] at he;obtain ⟨rfl,he',hG5⟩:=he;have hr:mm' x (aF' fuel) = .error e':=by unfold mm'; rw [hg]; rfl
  rw [hr] at hRES;subst hRES hAT;refine ab' (hN' hG5) ?_;rintro e w6 ⟨rfl,hk6⟩;exact ⟨⟨rfl,he'⟩,k05.tr hk6⟩
 | ok q =>
  rw [hg] at he;obtain ⟨rfl,hG5⟩:=he;have hr:mm' x (aF' fuel) = fi' x.book (tr x.main) (tr x.type) q.2:=by unfold mm'; rw [hg]; rfl
  rw [hr] at hRES;have up5:∀ b o v,C b o v -> Im [bg] w5 b o v:=fun b o v h=>Im.kb k45 (by simp) b o v (up4 _ _ _ h);have hX5:∀ b ∈ [bg],b < w5.heap.size:=xU hX4 k45;refine ldN [iV x.book.vars,v1,v2,iV x.book.nat,v3] rfl (bk5 h25) ?_;refine lb h25 ?_;refine lb h25 ?_;have hMv:TmV (Im [bg] w5) (tr x.main) (.slice am x.main.length cm):=by unfold TmV; rw [<- eM]; exact hM.mono up5
  have hTv:TmV (Im [bg] w5) (tr x.type) (.slice at1 x.type.length ct1):=by unfold TmV; rw [<- eT]; exact hT.mono up5
  refine ab' (lk' (w:=w5) hB hX5 (by simp) hG5 hFm hFt (hbo.mono up5) hMv hTv) ?_;rintro e w6 ⟨he,k56⟩;have k06:Kp [] w w6:=k05.trans k56 fun y hy hl=>by
   simp at hy;omega
  cases hh:fi' x.book (tr x.main) (tr x.type) q.2 with
  | error e' =>
   rw [hh] at he hRES;obtain ⟨rfl,he',hG6⟩:=he;subst hRES hAT;refine ab' (hN' hG6) ?_;rintro e w7 ⟨rfl,hk7⟩;exact ⟨⟨rfl,he'⟩,k06.tr hk7⟩
  | ok q2 =>
   rw [hh] at he hRES;obtain ⟨rfl,hG6⟩:=he;subst hRES hAT;refine ab' (hN' hG6) ?_;rintro e w7 ⟨rfl,hk7⟩;exact ⟨rfl,k06.tr hk7⟩
end
def rT:List Nd:=[⟨2,1,1⟩,⟨3,0,0⟩]
def rI:List Nd:=[⟨9,0,0⟩]
def rX:List Nd:=[⟨4,0,0⟩,⟨9,0,0⟩,⟨9,0,0⟩]
def enB (r:List Nd):EnT:={ kind:=1,sort:=rT,params:=[],indices:=[],ctors:=[⟨[],[]⟩,⟨[r],[]⟩],type:=[],body:=[] }
def BN (r:List Nd) (nat:Int):BoT:=⟨0,[],[enB r],nat,[]⟩
def jP' (lim:Int):List (List Nd) -> Int -> Int
 | [],a=>a
 | l :: r,a=>if a < lim then jP' lim r (a + 1 + (l.length:Int)) else a
def szC (lim:Int):List CtT -> Int -> Int
 | [],a=>a
 | c :: r,a=>if a < lim then szC lim r (a + 1 + jP' lim c.args 0 + jP' lim c.out 0) else a
def szE (lim:Int):List EnT -> Int -> Int
 | [],a=>a
 | x :: r,a=>if a < lim then szE lim r (szC lim x.ctors (a + 1 + (x.sort.length:Int) + (x.type.length:Int) + (x.body.length:Int) + jP' lim x.params 0 + jP' lim x.indices 0)) else a
def us' (B:BoT) (lim:Int):Int:=szE lim B.ents ((B.orders.length:Int) + (B.prims.length:Int))
theorem ut' {lim a:Int} (h:¬ a < lim):∀ (l:List (List Nd)),jP' lim l a = a
 | []=>rfl
 | l :: r=>by simp only [jP']; rw [if_neg h]
theorem sr' {lim a:Int} (h:¬ a < lim):∀ (l:List CtT),szC lim l a = a
 | []=>rfl
 | l :: r=>by simp only [szC]; rw [if_neg h]
theorem ss' {lim a:Int} (h:¬ a < lim):∀ (l:List EnT),szE lim l a = a
 | []=>rfl
 | l :: r=>by simp only [szE]; rw [if_neg h]
section
variable {C:Mem} {w:World} {B:BoT}
theorem go' (hS:Sub C w) {ls:List (List Nd)} {vl:Value} (hl:SV (rSk rNd) C ls vl) {lim:Int} (h0:0 <= lim /\ lim <= 100000) :
  CC 29 #[vl,iV lim] w (fun e w'=>(e = .returned (iV (jP' lim ls 0)) /\ 0 <= jP' lim ls 0 /\ jP' lim ls 0 <= 1200000000000) /\ Kp [] w w'):=by
 refine oF Tryz.func29 ?_;obtain ⟨RES,hRES⟩:∃ r,jP' lim ls 0 = r:=⟨_,rfl⟩
 rw [hRES];have hll:=hl;obtain ⟨al,cl,rfl,hl1,hl2⟩:=hl;have l1:=hl1.1;refine cO (args:=[_,_]) 27 [.tmp 4] τok Tryz.func29 ?_;refine lp τok (σ:=Nat × Int) (fun q=>[(0,.slice al ls.length cl),(1,iV lim),(5,iV q.2),(6,iV (q.1:Int))])
  (fun q w'=>q.1 <= ls.length /\ 0 <= q.2 /\ q.2 <= 1200000000000 /\ Kp [] w w' /\ jP' lim (ls.drop q.1) q.2 = RES) (fun q=>ls.length - q.1) (0,0) rfl
  ⟨rfl,rfl,rfl,rfl,trivial⟩ ⟨Nat.zero_le _,Int.le_refl _,by decide,Kp.refl _ _,hRES⟩ ?_
 clear hRES
 rintro ⟨i,a⟩ w1 ⟨hi,ha0,ha1,hk1,hres⟩;simp only at hi ha0 ha1 hres;have fin:jP' lim (ls.drop i) a = a -> (Ending.returned (Go.Wx.one [iV a]) = .returned (iV RES) /\ 0 <= RES /\ RES <= 1200000000000) /\ Kp [] w w1:=fun h=>by
  rw [h] at hres;subst hres;exact ⟨⟨rfl,ha0,ha1⟩,hk1⟩
 refine ac' (fun g=>?_) (fun g=>?_)
 ·have g:(i:Int) < (ls.length:Int):=g
  refine ac' (fun g2=>?_) (fun g2=>?_)
  ·have g2:a < lim:=g2
   obtain ⟨l,hl,hd⟩:=af' (l:=ls) (k:=i) (by omega);rw [hd] at hres;simp only [jP'] at hres;rw [if_pos g2] at hres;obtain ⟨b,o,c,pc,u,hu,hsu⟩:=qj' hll hl;injection pc with q1 q2 q3
   subst q1 q3;obtain ⟨au,cu,rfl,hu1,_⟩:=id hsu;have lu:=hu1.1;refine i6 ?_;refine ix i rfl (by omega) ?_;refine ld (Cl.cell (hS.tr hk1 _ _ _ hu)) ?_;refine i6 ?_;refine i6 ?_;exact ⟨(i + 1,a + 1 + (l.length:Int)),by simp only; omega,rfl,⟨rfl,rfl,rfl,rfl,trivial⟩,by show i + 1 <= _; omega,by simp only; omega,by simp only; omega,hk1,hres⟩
  ·have g2:¬ a < lim:=g2
   exact fin (ut' g2 _)
 ·have g:¬ (i:Int) < (ls.length:Int):=g
  exact fin (by rw [List.drop_eq_nil_of_le (by omega)]; rfl)
theorem uu' (hS:Sub C w) {vb:Value} (hvb:BoV C B vb) {lim:Int} (h0:0 <= lim /\ lim <= 100000) :
  CC 11 #[vb,iV lim] w (fun e w'=>e = .returned (iV (us' B lim)) /\ Kp [] w w'):=by
 refine oF Tryz.func11 ?_;obtain ⟨RES,hRES⟩:∃ r,us' B lim = r:=⟨_,rfl⟩
 rw [hRES];unfold us' at hRES;obtain ⟨v1,v2,v3,rfl,hO,hE,hP⟩:=hvb;obtain ⟨ao,co,rfl,hO1,_⟩:=id hO;obtain ⟨ae,ce,rfl,hE1,_⟩:=id hE;obtain ⟨ap,cp,rfl,hP1,_⟩:=id hP;have lO:=hO1.1;have lE:=hE1.1;have lP:=hP1.1;refine cO (args:=[_,_]) 90 [.tmp 4] τok Tryz.func11 ?_;refine new fun b2 w1 hb2 h2 hs1 hk1=>?_;have h2:Bk w1.heap b2 [iV B.vars,.slice ao B.orders.length co,.slice ae B.ents.length ce,iV B.nat,.slice ap B.prims.length cp] 26:=h2;refine lb h2 ?_;refine lb h2 ?_;refine i6 ?_;refine lp τok (σ:=Nat × Int) (fun q=>[(1,iV lim),(2,pt b2),(5,iV q.2),(6,iV (q.1:Int))])
  (fun q w'=>q.1 <= B.ents.length /\ 0 <= q.2 /\ q.2 <= 100000000000000 /\ Kp [] w1 w' /\ szE lim (B.ents.drop q.1) q.2 = RES) (fun q=>B.ents.length - q.1) (0,(B.orders.length:Int) + (B.prims.length:Int)) rfl
  ⟨rfl,rfl,rfl,rfl,trivial⟩ ⟨Nat.zero_le _,by simp only; omega,by simp only; omega,Kp.refl _ _,hRES⟩ ?_
 clear hRES
 rintro ⟨i,a⟩ w2 ⟨hi,ha0,ha1,hk2,hres⟩;simp only at hi ha0 ha1 hres;have k02:=hk1.tr hk2;have h22:=h2.kp hk2 (by simp);have fin:szE lim (B.ents.drop i) a = a -> Ending.returned (Go.Wx.one [iV a]) = .returned (iV RES) /\ Kp [] w w2:=fun h=>by
  rw [h] at hres;subst hres;exact ⟨rfl,k02⟩
 refine lb h22 ?_;refine ac' (fun g=>?_) (fun g=>?_)
 ·have g:(i:Int) < (B.ents.length:Int):=g
  refine ac' (fun g2=>?_) (fun g2=>?_)
  ·have g2:a < lim:=g2
   obtain ⟨x,hx,hd⟩:=af' (l:=B.ents) (k:=i) (by omega);rw [hd] at hres;simp only [szE] at hres;rw [if_pos g2] at hres;obtain ⟨be,oe,ce',pe,hat⟩:=hE.at hx;obtain ⟨w1e,w2e,w3e,w4e,w5e,w6e,hcs,hki,hso,hpa,hin,hct,hty,hbo⟩:=dO' hat;injection pe with q1 q2 q3
   subst q1 q3;obtain ⟨as_,cs_,rfl,hso1,_⟩:=id hso;obtain ⟨apa,cpa,rfl,hpa1,_⟩:=id hpa;obtain ⟨ain,cin,rfl,hin1,_⟩:=id hin;obtain ⟨act,cct,rfl,hct1,_⟩:=id hct;obtain ⟨aty,cty,rfl,hty1,_⟩:=id hty;obtain ⟨abo,cbo,rfl,hbo1,_⟩:=id hbo;have m1:=hso1.1;have m2:=hct1.1;have m3:=hty1.1;have m4:=hbo1.1;refine lb h22 ?_;refine ix i rfl (by omega) ?_;refine ldN _ rfl (fun j u hj=>(hS.tr k02) _ _ _ (hcs j u hj)) ?_;refine new fun b7 w3 hb7 h7 hs3 hk3=>?_;refine stN (vs:=[iV x.kind,.slice as_ x.sort.length cs_,.slice apa x.params.length cpa,.slice ain x.indices.length cin,.slice act x.ctors.length cct,.slice aty x.type.length cty,.slice abo x.body.length cbo]) h7 rfl (by simp [Value.oneCell']) fun w4 h7 hs4 hk4=>?_;have k24:=hk3.newSt hb7 hk4;have k04:=k02.tr k24;have h7:Bk w4.heap b7 [iV x.kind,.slice as_ x.sort.length cs_,.slice apa x.params.length cpa,.slice ain x.indices.length cin,.slice act x.ctors.length cct,.slice aty x.type.length cty,.slice abo x.body.length cbo] 39:=h7;refine am' τok (fun z=>Kp [] w4 z) ?_;refine rV τok [0,1,2,3,4,5,6,7,8,9,10,11,12,13,14,15,16,19,20,21] 5 (mB 25 [17,18,22,23,24]) (kQd w4) ?_;refine i6 ?_;refine lk h7 ?_;refine i6 ?_;refine lk h7 ?_;refine i6 ?_;refine lk h7 ?_;refine i6 ?_;refine lk h7 ?_;refine lk h7 ?_;refine nV τok 17 4 (mB 25 [18,22,23,24]) ?_;refine ab' (go' (w:=(dr w4)) (hS.tr (k04.dr _)) hpa h0) ?_;rintro e w5 ⟨⟨rfl,p0,p1⟩,hk5⟩;have hk5:Kp [] w4 w5:=hk5.rd;refine ⟨.inl hk5,?_⟩;refine rV τok [18] 3 (mR 25 22) hk5 ?_;refine i6 ?_;refine nV τok 22 2 (mR 25 23) ?_;refine ab' (go' (hS.tr (k04.tr hk5)) hin h0) ?_;rintro e w6 ⟨⟨rfl,i0,i1⟩,hk6⟩;have k46:=hk5.tr hk6;refine ⟨.inl k46,?_⟩;refine rV τok [23,24] 0 (mR 25 25) k46 ?_;refine i6 ?_;refine dV ?_;obtain ⟨a1,ha1'⟩:∃ a1,a1 = a + 1 + (x.sort.length:Int) + (x.type.length:Int) + (x.body.length:Int) + jP' lim x.params 0 + jP' lim x.indices 0:=⟨_,rfl⟩
   rw [<- ha1'] at hres ⊢;have k06:=k04.tr k46;have h7:=h7.kp k46 (by simp);obtain ⟨RC,hRC⟩:∃ r,szC lim x.ctors a1 = r:=⟨_,rfl⟩
   rw [hRC] at hres;refine lp τok (σ:=Nat × Int) (fun q=>[(1,iV lim),(2,pt b2),(5,iV q.2),(6,iV (i:Int)),(7,pt b7),(8,iV (q.1:Int))])
    (fun q w'=>q.1 <= x.ctors.length /\ 0 <= q.2 /\ q.2 <= 100000000000000 /\ Kp [] w6 w' /\ szC lim (x.ctors.drop q.1) q.2 = RC) (fun q=>x.ctors.length - q.1) (0,a1) rfl
    ⟨rfl,rfl,rfl,rfl,rfl,rfl,trivial⟩ ⟨Nat.zero_le _,by simp only; omega,by simp only; omega,Kp.refl _ _,hRC⟩ ?_
   clear hRC
   rintro ⟨j,a2⟩ w7 ⟨hj,hj0,hj1,hk7,hRC⟩;simp only at hj hj0 hj1 hRC;have k07:=k06.tr hk7;have h77:=h7.kp hk7 (by simp);refine lb h77 ?_;have k17:Kp [] w1 w7:=(hk2.tr k24).tr (k46.tr hk7);have next:szC lim (x.ctors.drop j) a2 = a2 -> a2 = RC:=fun h=>by rw [<- hRC,h]
   refine ac' (fun y1=>?_) (fun y1=>?_)
   ·have y1:(j:Int) < (x.ctors.length:Int):=y1
    refine ac' (fun y2=>?_) (fun y2=>?_)
    ·have y2:a2 < lim:=y2
     obtain ⟨c,hc,hd⟩:=af' (l:=x.ctors) (k:=j) (by omega);rw [hd] at hRC;simp only [szC] at hRC;rw [if_pos y2] at hRC;obtain ⟨bc,oc,cc',pc,hca⟩:=hct.at hc;obtain ⟨va,vo,hccs,hva,hvo⟩:=hT' hca;injection pc with q1 q2 q3
     subst q1 q3;obtain ⟨aa,ca,rfl,_,_⟩:=id hva;obtain ⟨aoo,coo,rfl,_,_⟩:=id hvo;have hS7:=hS.tr k07;refine am' τok (fun z=>Kp [] w7 z) ?_;refine rV τok [0,1,2,3,4,5,6,7,8,11,12,13,14,15,16,17] 5 (mB 21 [9,10,18,19,20]) (kQd w7) ?_;refine i6 ?_;refine lk h77 ?_;refine ix j rfl (by omega) ?_;refine ldK (hS7 _ _ _ (hccs 0 _ rfl)) ?_;refine lk h77 ?_;refine ix j rfl (by omega) ?_;refine ldK (hS7 _ _ _ (hccs 1 _ rfl)) ?_;refine nV τok 9 4 (mB 21 [10,18,19,20]) ?_;refine ab' (go' (w:=(dr w7)) (hS.tr (k07.dr _)) hva h0) ?_;rintro e w8 ⟨⟨rfl,s0,s1⟩,hk8⟩;have hk8:Kp [] w7 w8:=hk8.rd;refine ⟨.inl hk8,?_⟩;refine rV τok [10] 3 (mR 21 18) hk8 ?_;refine i6 ?_;refine nV τok 18 2 (mR 21 19) ?_;refine ab' (go' (hS7.tr hk8) hvo h0) ?_;rintro e w9 ⟨⟨rfl,t0,t1⟩,hk9⟩;have k79:=hk8.tr hk9;refine ⟨.inl k79,?_⟩;refine rV τok [19,20] 0 (mR 21 21) k79 ?_;refine i6 ?_;refine dV ?_;refine i6 ?_;exact ⟨(j + 1,a2 + 1 + jP' lim c.args 0 + jP' lim c.out 0),by simp only; omega,rfl,⟨rfl,rfl,rfl,rfl,rfl,rfl,trivial⟩,by show j + 1 <= _; omega,by simp only; omega,by simp only; omega,hk7.tr k79,hRC⟩
    ·have y2:¬ a2 < lim:=y2
     have:=next (sr' y2 _);refine i6 ?_;exact ⟨(i + 1,a2),by simp only; omega,rfl,⟨rfl,rfl,rfl,rfl,trivial⟩,by show i + 1 <= _; omega,hj0,hj1,k17,by simp only; rw [this]; exact hres⟩
   ·have y1:¬ (j:Int) < (x.ctors.length:Int):=y1
    have:=next (by rw [List.drop_eq_nil_of_le (by omega)]; rfl);refine i6 ?_;exact ⟨(i + 1,a2),by simp only; omega,rfl,⟨rfl,rfl,rfl,rfl,trivial⟩,by show i + 1 <= _; omega,hj0,hj1,k17,by simp only; rw [this]; exact hres⟩
  ·have g2:¬ a < lim:=g2
   exact fin (ss' g2 _)
 ·have g:¬ (i:Int) < (B.ents.length:Int):=g
  exact fin (by rw [List.drop_eq_nil_of_le (by omega)]; rfl)
end
section
variable {w:World}
theorem fS' {α:Type} {R:Rd α} {b T:Nat} {x:α} {cs:List Value} (hb:Bk w.heap b cs T) (hd:R.den (Im [] w) cs x):SV R (Im [] w) [x] (.slice (some ⟨b,0,none⟩) 1 1):=by
 refine ⟨_,_,rfl,⟨by simp,.inr ⟨b,0,rfl,fun i y hy=>?_⟩⟩,by simp⟩
 match i,hy with
 | 0,hy =>
  obtain rfl:x = y:=by simpa using hy
  refine ⟨cs,hd,fun j v hj=>⟨?_,by simp⟩⟩;rw [Nat.zero_mul,Nat.add_zero,Nat.zero_add];exact hb.cl hj
 | i + 1,hy=>simp at hy
theorem tc' {α:Type} {R:Rd α} {b T:Nat} {x y:α} {cs ds:List Value} (hb:Bk w.heap b (cs ++ ds) T) (hd:R.den (Im [] w) cs x) (he:R.den (Im [] w) ds y):SV R (Im [] w) [x,y] (.slice (some ⟨b,0,none⟩) 2 2):=by
 have hl:=R.len hd;refine ⟨_,_,rfl,⟨by simp,.inr ⟨b,0,rfl,fun i z hz=>?_⟩⟩,by simp⟩
 match i,hz with
 | 0,hz =>
  obtain rfl:x = z:=by simpa using hz
  refine ⟨cs,hd,fun j v hj=>⟨?_,by simp⟩⟩;rw [Nat.zero_mul,Nat.add_zero,Nat.zero_add];exact hb.cl (by rw [List.getElem?_append_left (ai' hj)]; exact hj)
 | 1,hz =>
  obtain rfl:y = z:=by simpa using hz
  refine ⟨ds,he,fun j v hj=>⟨?_,by simp⟩⟩;rw [Nat.one_mul,Nat.zero_add];exact hb.cl (by rw [List.getElem?_append_right (by omega),hl,Nat.add_sub_cancel_left]; exact hj)
 | i + 2,hz=>simp at hz
def vS' (w:World) (b3 b7 b9 b11:Nat) (vr:Value):Prop :=
 Bk w.heap b3 [iV 2,iV 1,iV 1,iV 3,iV 0,iV 0] 43 /\ Bk w.heap b7 [vr] 35 /\ Bk w.heap b9 [.slice none 0 0,.slice none 0 0,.slice (some ⟨b7,0,none⟩) 1 1,.slice none 0 0] 41 /\
  Bk w.heap b11 [iV 1,.slice (some ⟨b3,0,none⟩) 2 2,.slice none 0 0,.slice none 0 0,.slice (some ⟨b9,0,none⟩) 2 2,.slice none 0 0,.slice none 0 0] 39
theorem wC' {b3:Nat} (h:Bk w.heap b3 [iV 2,iV 1,iV 1,iV 3,iV 0,iV 0] 43):SV rNd (Im [] w) rT (.slice (some ⟨b3,0,none⟩) 2 2) :=
 tc' (cs:=[iV 2,iV 1,iV 1]) (ds:=[iV 3,iV 0,iV 0]) h ⟨rfl,⟨by simp,by simp⟩,⟨by simp,by simp⟩,⟨by simp,by simp⟩⟩ ⟨rfl,⟨by simp,by simp⟩,⟨by simp,by simp⟩,⟨by simp,by simp⟩⟩
theorem uv' {b3 b7 b9 b11:Nat} {vr:Value} {r:List Nd} {nat:Int} (h:vS' w b3 b7 b9 b11 vr) (hr:SV rNd (Im [] w) r vr):BoV (Im [] w) (BN r nat) (.agg #[iV 0,.slice none 0 0,.slice (some ⟨b11,0,none⟩) 1 1,iV nat,.slice none 0 0]):=by
 obtain ⟨h3,h7,h9,h11⟩:=h;refine ⟨_,_,_,rfl,SV.nil _ _,fS' h11 ?_,SV.nil _ _⟩;obtain ⟨ar,cr,rfl,hr1,hr2⟩:=hr;have h71:SV (rSk rNd) (Im [] w) [r] (.slice (some ⟨b7,0,none⟩) 1 1):=fS' h7 ⟨_,_,rfl,hr2,hr1⟩;refine ⟨_,_,_,_,_,_,rfl,⟨by simp [enB],by simp [enB]⟩,wC' h3,SV.nil _ _,SV.nil _ _,?_,SV.nil _ _,SV.nil _ _⟩;exact tc' (cs:=[.slice none 0 0,.slice none 0 0]) (ds:=[.slice (some ⟨b7,0,none⟩) 1 1,.slice none 0 0]) h9 ⟨_,_,rfl,SV.nil _ _,SV.nil _ _⟩ ⟨_,_,rfl,h71,SV.nil _ _⟩
end
def rC:List Nd:=[⟨10,0,0⟩]
theorem nE':gb' ⟨BN rI 0,rC,rI⟩ 9 = .ok ((),8) /\ hL' ⟨BN rI 0,rC,rI⟩ 9 = 1:=⟨by kernel_rfl,by kernel_rfl⟩
theorem qz':gb' ⟨BN rI 0,rC,rT⟩ 9 = .error 13 /\ hL' ⟨BN rI 0,rC,rT⟩ 9 = 1:=⟨by kernel_rfl,by kernel_rfl⟩
theorem st':mk' (BN rI 0) 1 = .ok (nB' 0,vR' 0 (hH' (BN rI 0) 1)):=by kernel_rfl
theorem qA':(nB' 0).length = 5 /\ (vR' 0 (hH' (BN rI 0) 1)).length = 26:=⟨by kernel_rfl,by kernel_rfl⟩
section
variable {w:World}
theorem qB' (w:World) :
  CC 22 #[] w (fun e w'=>(∃ b3 b6 b7 b9 b11,e = .returned (.agg #[iV 0,.slice none 0 0,.slice (some ⟨b11,0,none⟩) 1 1,iV 0,.slice none 0 0]) /\ vS' w' b3 b7 b9 b11 (.slice (some ⟨b6,0,none⟩) 1 1) /\ Bk w'.heap b6 [iV 9,iV 0,iV 0] 43 /\ w.heap.size <= b3 /\ b3 < b6 /\ b6 < b7 /\ b7 < b9 /\ b9 < b11) /\ Kp [] w w'):=by
 refine oF Tryz.func22 ?_;refine cO (args:=[]) 13 [.cell 0 26] τok Tryz.func22 ?_;refine new fun b0 w0 hb0 h0 hs0 hk0=>?_;refine fill [iV 2,iV 1,iV 1,iV 3,iV 0,iV 0] rfl ?_;refine new fun b3 w1 hb3 h3 hs1 hk1=>?_;refine fill [iV 9,iV 0,iV 0] rfl ?_;refine new fun b6 w2 hb6 h6 hs2 hk2=>?_;refine fill [.slice (some ⟨b6,0,none⟩) 1 1] rfl ?_;refine new fun b7 w3 hb7 h7 hs3 hk3=>?_;refine fill [.slice none 0 0,.slice none 0 0,.slice (some ⟨b7,0,none⟩) 1 1,.slice none 0 0] rfl ?_;refine new fun b9 w4 hb9 h9 hs4 hk4=>?_;refine fill [iV 1,.slice (some ⟨b3,0,none⟩) 2 2,.slice none 0 0,.slice none 0 0,.slice (some ⟨b9,0,none⟩) 2 2,.slice none 0 0,.slice none 0 0] rfl ?_;refine new fun b11 w5 hb11 h11 hs5 hk5=>?_;have k45:=hk5;have k35:=hk4.tr k45;have k25:=hk3.tr k35;have k15:=hk2.tr k25;have k05:=hk1.tr k15;refine stN (vs:=[iV 0,.slice none 0 0,.slice (some ⟨b11,0,none⟩) 1 1,iV 0,.slice none 0 0]) (h0.kp k05 (by simp)) rfl (by simp [Value.oneCell']) fun w6 h06 hs6 hk6=>?_;refine mu' τok rfl [_,_,_,_,_] rfl (fun j v hj=>h06.cl hj) ?_;have z0:b0 = w.heap.size:=hb0;have z3:b3 = w0.heap.size:=hb3;have z6:b6 = w1.heap.size:=hb6;have z7:b7 = w2.heap.size:=hb7;have z9:b9 = w3.heap.size:=hb9;have z11:b11 = w4.heap.size:=hb11;refine ⟨⟨b3,b6,b7,b9,b11,rfl,⟨(h3.kp k15 (by simp)).kp hk6 (by simp; omega),(h7.kp k35 (by simp)).kp hk6 (by simp; omega),(h9.kp k45 (by simp)).kp hk6 (by simp; omega),h11.kp hk6 (by simp; omega)⟩,(h6.kp k25 (by simp)).kp hk6 (by simp; omega),by omega,by omega,by omega,by omega,by omega⟩,(hk0.tr k05).newSt hb0 hk6⟩
theorem qC' (w:World) :
  CC 18 #[] w (fun e w'=>e = .returned (.bool true) /\ Kp [] w w'):=by
 refine oF Tryz.func18 ?_;refine cO (args:=[]) 78 [.tmp 0] τok Tryz.func18 ?_;refine ab' (qB' w) ?_;rintro e w1 ⟨⟨b3,b6,b7,b9,b11,rfl,hN,h6,_⟩,hk1⟩;refine fill [iV 10,iV 0,iV 0] rfl ?_;refine new fun bm w2 hbm hm hs2 hk2=>?_;refine fill [iV 9,iV 0,iV 0] rfl ?_;refine new fun bt w3 hbt ht hs3 hk3=>?_;refine new fun bp w4 hbp hp hs4 hk4=>?_;refine stN (vs:=[iV 0,.slice none 0 0,.slice (some ⟨b11,0,none⟩) 1 1,iV 0,.slice none 0 0,.slice (some ⟨bm,0,none⟩) 1 1,.slice (some ⟨bt,0,none⟩) 1 1]) hp rfl (by simp [Value.oneCell']) fun w5 hp hs5 hk5=>?_;have k35:=hk4.newSt hbp hk5;have zp:bp = w3.heap.size:=hbp;have k25:=hk3.tr k35;have k15:=hk2.tr k25;have k05:=hk1.tr k15;obtain ⟨g3,g7,g9,g11⟩:=hN;have g3:=g3.kp k15 (by simp);have g7:=g7.kp k15 (by simp);have g9:=g9.kp k15 (by simp);have l11:=g11.lt;have g11:=g11.kp k15 (by simp);have h6:=h6.kp k15 (by simp);have hm:=hm.kp k25 (by simp);have ht:=ht.kp k35 (by simp);have hN5:vS' w5 b3 b7 b9 b11 (.slice (some ⟨b6,0,none⟩) 1 1):=⟨g3,g7,g9,g11⟩
 have hrI:SV rNd (Im [] w5) rI (.slice (some ⟨b6,0,none⟩) 1 1):=fS' h6 ⟨rfl,⟨by simp,by simp⟩,⟨by simp,by simp⟩,⟨by simp,by simp⟩⟩;have hrC:SV rNd (Im [] w5) rC (.slice (some ⟨bm,0,none⟩) 1 1):=fS' hm ⟨rfl,⟨by simp,by simp⟩,⟨by simp,by simp⟩,⟨by simp,by simp⟩⟩;have hrJ:SV rNd (Im [] w5) rI (.slice (some ⟨bt,0,none⟩) 1 1):=fS' ht ⟨rfl,⟨by simp,by simp⟩,⟨by simp,by simp⟩,⟨by simp,by simp⟩⟩;have hrT:=wC' g3;obtain ⟨_,_,_,e0,i1,i2,i3⟩:=uv' (nat:=0) hN5 hrI;injection e0 with e0
 have e0':=congrArg Array.toList e0;simp at e0';obtain ⟨_,rfl,rfl,_,rfl⟩:=e0';refine ldN [iV 0,.slice none 0 0,.slice (some ⟨b11,0,none⟩) 1 1,iV 0,.slice none 0 0,.slice (some ⟨bm,0,none⟩) 1 1,.slice (some ⟨bt,0,none⟩) 1 1] rfl (bZ hp) ?_;refine ab' (dk' (w:=w5) (C:=Im [] w5) (Im.sub [] w5) (fun _ _ _ h=>h.hold) (x:=⟨BN rI 0,rC,rI⟩) ⟨_,_,_,_,_,rfl,i1,i2,i3,hrC,hrJ⟩ 9) ?_;rintro e w6 ⟨he,hk6⟩;rw [nE'.1,nE'.2] at he;obtain rfl:=he;have hp:=hp.kp hk6 (by simp);have g11:=g11.kp hk6 (by simp);refine lb hp ?_;refine ix 0 rfl (by omega) ?_;refine lb g11 ?_;refine st (b:=bp) (o:=6) hp (by simp) rfl fun w7 hp hs7 hk7=>?_;have hp:Bk w7.heap bp [iV 0,.slice none 0 0,.slice (some ⟨b11,0,none⟩) 1 1,iV 0,.slice none 0 0,.slice (some ⟨bm,0,none⟩) 1 1,.slice (some ⟨b3,0,none⟩) 2 2] 53:=hp;have l3:=k35.size;have s1:=hk1.size;have s2:=hk2.size;have s3:=hk3.size;have k17:Kp [bp] w5 w7:=(hk6.weak (by simp)).tq hk7;have k07:Kp [] w w7:=k05.trans k17 fun y hy hl=>by
  simp at hy;omega
 have lb3:=g3.lt;refine ldN [iV 0,.slice none 0 0,.slice (some ⟨b11,0,none⟩) 1 1,iV 0,.slice none 0 0,.slice (some ⟨bm,0,none⟩) 1 1,.slice (some ⟨b3,0,none⟩) 2 2] rfl (bZ hp) ?_;have z11:b11 < w1.heap.size:=l11;have hN7:vS' w7 b3 b7 b9 b11 (.slice (some ⟨b6,0,none⟩) 1 1):=⟨g3.kp k17 (by simp; omega),g7.kp k17 (by simp; omega),g9.kp k17 (by simp; omega),(g11.kp hk7 (by simp; omega))⟩
 have hrI7:SV rNd (Im [] w7) rI (.slice (some ⟨b6,0,none⟩) 1 1):=fS' (h6.kp k17 (by simp; omega)) ⟨rfl,⟨by simp,by simp⟩,⟨by simp,by simp⟩,⟨by simp,by simp⟩⟩;have zm:bm = w1.heap.size:=hbm;have hrC7:SV rNd (Im [] w7) rC (.slice (some ⟨bm,0,none⟩) 1 1):=fS' (hm.kp k17 (by simp; omega)) ⟨rfl,⟨by simp,by simp⟩,⟨by simp,by simp⟩,⟨by simp,by simp⟩⟩;obtain ⟨_,_,_,e0,i1,i2,i3⟩:=uv' (nat:=0) hN7 hrI7;injection e0 with e0
 have e0':=congrArg Array.toList e0;simp at e0';obtain ⟨_,rfl,rfl,_,rfl⟩:=e0';refine ab' (dk' (w:=w7) (C:=Im [] w7) (Im.sub [] w7) (fun _ _ _ h=>h.hold) (x:=⟨BN rI 0,rC,rT⟩) ⟨_,_,_,_,_,rfl,i1,i2,i3,hrC7,wC' hN7.1⟩ 9) ?_;rintro e w8 ⟨he,hk8⟩;rw [qz'.1,qz'.2] at he;obtain ⟨rfl,_⟩:=he;refine ab' (qB' w8) ?_;rintro e w9 ⟨⟨c3,c6,c7,c9,c11,rfl,hN9,g6,_⟩,hk9⟩;have hrI9:SV rNd (Im [] w9) rI (.slice (some ⟨c6,0,none⟩) 1 1):=fS' g6 ⟨rfl,⟨by simp,by simp⟩,⟨by simp,by simp⟩,⟨by simp,by simp⟩⟩;refine ab' (qy' (w:=w9) (C:=Im [] w9) (Im.sub [] w9) (fun _ _ _ h=>h.hold) (uv' (nat:=0) hN9 hrI9) 1) ?_;rintro e w10 ⟨he,hk10⟩;rw [st'] at he;obtain ⟨v,u,rfl,hv,hu⟩:=he;obtain ⟨av,cv,rfl,_,_⟩:=hv;obtain ⟨au,cu,rfl,_,_⟩:=hu;have k010:=((k07.tr hk8).tr hk9).tr hk10;rw [qA'.1,qA'.2];exact ⟨rfl,k010⟩
theorem qD' {C:Mem} (hS:Sub C w) {x:PrT} {v:Value} (hv:PrV C x v) (fuel:Int) :
  CC 19 #[v,iV fuel] w (fun e w'=>(∃ b,e = .returned (.bool b)) /\ Kp [] w w'):=by
 refine oF Tryz.func19 ?_;obtain ⟨v1,v2,v3,vm,vt,rfl,hO,hE,hP,hM,hT⟩:=hv;have hbo:BoV C x.book (.agg #[iV x.book.vars,v1,v2,iV x.book.nat,v3]):=⟨v1,v2,v3,rfl,hO,hE,hP⟩
 obtain ⟨am,cm,rfl,hM1,hM2⟩:=hM;obtain ⟨at1,ct1,rfl,hT1,hT2⟩:=hT;have l1:=hM1.1;have l2:=hT1.1;refine cO (args:=[_,_]) 23 [.tmp 4] τok Tryz.func19 ?_;refine new fun b2 w1 hb2 h2 hs1 hk1=>?_;have h2:Bk w1.heap b2 [iV x.book.vars,v1,v2,iV x.book.nat,v3,.slice am x.main.length cm,.slice at1 x.type.length ct1] 53:=h2;refine ldN [iV x.book.vars,v1,v2,iV x.book.nat,v3] rfl (fun j u hj=>by
  refine h2.cl ?_;rw [Nat.zero_add]
  match j,hj with
  | 0,hj=>exact hj
  | 1,hj=>exact hj
  | 2,hj=>exact hj
  | 3,hj=>exact hj
  | 4,hj=>exact hj
  | j + 5,hj=>cases hj) ?_
 refine ab' (uu' (hS.tr hk1) hbo (lim:=4000) (by omega)) ?_;rintro e w2 ⟨rfl,hk2⟩;have k02:=hk1.tr hk2;have h2:=h2.kp hk2 (by simp);refine ac' (fun g0=>?_) (fun g0=>?_)
 ·exact ⟨⟨_,rfl⟩,k02⟩
 refine lb h2 ?_;refine lb h2 ?_;refine i6 ?_;refine ac' (fun g1=>?_) (fun g1=>?_)
 ·exact ⟨⟨_,rfl⟩,k02⟩
 exact ⟨⟨_,rfl⟩,k02⟩
theorem ob' (B:BoT) (e:Int):Fue fun n=>hC' B e (n:Int):=ak' aT' (dh' (sg' B e))
theorem iK' (B:BoT) (t y:Tr):Fue (fi' B t y):=as' (eC' B [] y) fun _=>fR' B [] t y
theorem su' (B:BoT) (x:EnT) (i:Nat):Fue (so' B x i):=ak' (ob' B i) (iK' B _ _)
theorem ll' (B:BoT):∀ (l:List EnT) (i:Nat),Fue (hI' B l i)
 | [],i=>ay'
 | x :: r,i=>as' (su' B x i) fun _=>ll' B r (i + 1)
theorem qE' (B:BoT):Fue (ml' B):=as' (ll' B B.ents 0) fun _=>ak' ay' aT'
theorem qF' (x:PrT):Fue (mm' x):=as' (qE' x.book) fun _=>iK' x.book _ _
theorem qG' {x:PrT} {f:Int} {n:Nat} (h0:0 <= f) (h1:f <= 1000) (h:gb' x f = .ok ((),n)) :
  (n:Int) <= f /\ (∀ more:Int,0 <= more -> more <= 1000 -> gb' x (f + more) = .ok ((),n + more.toNat)) /\ (¬ (n:Int) = f -> gb' x (f - n - 1) = .error 10):=by
 have cl:∀ {f:Int},0 <= f -> f <= 100000 -> aF' f = f.toNat:=fun h0 h1=>by unfold aF'; omega
 unfold gb' at h ⊢;split at h
 ·cases h
 rename_i g;split at h
 ·cases h
 rename_i g2;rw [cl h0 (by omega)] at h;obtain ⟨l,F⟩:=qF' x f.toNat () n (by omega) h;refine ⟨by omega,fun more hm hm'=>?_,fun hn=>?_⟩
 ·rw [if_neg g,if_neg g2,cl (by omega) (by omega),(F _ (by omega)).1 (by omega)]
  congr 2
  omega
 ·rw [if_neg g,if_neg g2,cl (by omega) (by omega)]
  exact (F _ (by omega)).2 (by omega)
theorem qH' {x:PrT} {f:Int} {q:Unit × Nat} (h:gb' x f = .ok q):hL' x f = x.book.ents.length:=by
 unfold gb' at h;unfold hL';split at h
 ·cases h
 rename_i g;split at h
 ·cases h
 rename_i g2;rw [if_neg g,if_neg g2];unfold mm' at h;obtain ⟨p,hp,_⟩:=aq' h;unfold ml' at hp;obtain ⟨p2,hp2,hp3⟩:=aq' hp;unfold lj';rw [hp2];split at hp3
 ·rename_i g3
  rw [g3]
  rfl
 ·cases hp3
theorem lm' {x:PrT} {v:Value} (hv:PrV (Im [] w) x v) (fuel:Int) {more:Int} (hm:0 <= more /\ more <= 255) :
  CC 7 #[v,iV fuel,.int .u8 more] w (fun e w'=>e = .returned (.bool true) /\ Kp [] w w'):=by
 refine oF Tryz.func7 ?_;have hvv:=hv;obtain ⟨v1,v2,v3,vm,vt,rfl,hO,hE,hP,hM,hT⟩:=hv;obtain ⟨am,cm,rfl,hM1,hM2⟩:=hM;obtain ⟨at1,ct1,rfl,hT1,hT2⟩:=hT;refine cO (args:=[_,_,_]) 80 [.tmp 6] τok Tryz.func7 ?_;refine new fun b3 w1 hb3 h3 hs1 hk1=>?_;have h3:Bk w1.heap b3 [iV x.book.vars,v1,v2,iV x.book.nat,v3,.slice am x.main.length cm,.slice at1 x.type.length ct1] 53:=h3;refine ab' (qC' w1) ?_;rintro e w2 ⟨rfl,hk2⟩;have k02:=hk1.tr hk2;have h3:=h3.kp hk2 (by simp);refine ldN [iV x.book.vars,v1,v2,iV x.book.nat,v3,.slice am x.main.length cm,.slice at1 x.type.length ct1] rfl (bZ h3) ?_;refine ab' (qD' (C:=Im [] w) ((Im.sub [] w).tr k02) hvv fuel) ?_;rintro e w3 ⟨⟨hb,rfl⟩,hk3⟩;have k03:=k02.tr hk3;have h3:=h3.kp hk3 (by simp);cases hb with
 | true=>exact ⟨rfl,k03⟩
 | false =>
 refine ac' (fun g1=>?_) (fun g1=>?_)
 ·exact ⟨rfl,k03⟩
 have g1:¬ fuel < 0:=g1;refine ac' (fun g2=>?_) (fun g2=>?_)
 ·exact ⟨rfl,k03⟩
 have g2:¬ 500 < fuel:=g2;refine ldN [iV x.book.vars,v1,v2,iV x.book.nat,v3,.slice am x.main.length cm,.slice at1 x.type.length ct1] rfl (bZ h3) ?_;refine ab' (dk' (w:=w3) (C:=Im [] w) ((Im.sub [] w).tr k03) (fun _ _ _ h=>Nat.lt_of_lt_of_le h.hold k03.size) hvv fuel) ?_;rintro e w4 ⟨he,hk4⟩;have k04:=k03.tr hk4;have h3:=h3.kp hk4 (by simp);cases hr:gb' x fuel with
 | error er =>
  rw [hr] at he;obtain ⟨rfl,her⟩:=he;refine au' (p:=er ≠ 0) her ?_;exact ⟨rfl,k04⟩
 | ok q =>
  obtain ⟨⟨⟩,n⟩:=q;obtain ⟨l1,l2,l3⟩:=qG' (by omega) (by omega) hr;rw [hr,qH' hr] at he;obtain rfl:=he;refine ldN [iV x.book.vars,v1,v2,iV x.book.nat,v3,.slice am x.main.length cm,.slice at1 x.type.length ct1] rfl (bZ h3) ?_;refine i6 ?_;refine i6 ?_;refine ab' (dk' (w:=w4) (C:=Im [] w) ((Im.sub [] w).tr k04) (fun _ _ _ h=>Nat.lt_of_lt_of_le h.hold k04.size) hvv (fuel + more)) ?_;rintro e w5 ⟨he,hk5⟩;have k05:=k04.tr hk5;have h3:=h3.kp hk5 (by simp);have hm2:=l2 more hm.1 (by omega);rw [hm2,qH' hm2] at he;obtain rfl:=he;refine bC' (p:=(x.book.ents.length:Int) ≠ (x.book.ents.length:Int)) (by simp) ?_;refine i6 ?_;refine i6 ?_;refine bC' (p:=((n + more.toNat:Nat):Int) ≠ (n:Int) + more) (by omega) ?_;refine ac' (fun g3=>?_) (fun g3=>?_)
  ·exact ⟨rfl,k05⟩
  have g3:¬ (n:Int) = fuel:=g3;refine ldN [iV x.book.vars,v1,v2,iV x.book.nat,v3,.slice am x.main.length cm,.slice at1 x.type.length ct1] rfl (bZ h3) ?_;refine i6 ?_;refine i6 ?_;refine ab' (dk' (w:=w5) (C:=Im [] w) ((Im.sub [] w).tr k05) (fun _ _ _ h=>Nat.lt_of_lt_of_le h.hold k05.size) hvv (fuel - n - 1)) ?_;rintro e w6 ⟨he,hk6⟩;rw [l3 g3] at he;obtain ⟨rfl,_⟩:=he;exact ⟨rfl,k05.tr hk6⟩
end
end Go.Proofs.YtmpgcpemnjbgjaaGreat
