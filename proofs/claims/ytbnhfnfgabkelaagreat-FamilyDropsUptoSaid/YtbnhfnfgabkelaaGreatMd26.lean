import Derived.Test.YtbnhfnfgabkelaaGreatMd25
set_option linter.unusedVariables false
set_option linter.unusedSimpArgs false
set_option maxRecDepth 100000
set_option maxHeartbeats 4000000
namespace Go.Proofs.YtbnhfnfgabkelaaGreat
open Go.Wx Cd Tm Lv
def Nx (lo g:Nat) (w:World):Mem:=fun b o v=>lo <= b /\ b ≠ g /\ Cu w.heap b o v
theorem Nx.tr {lo g:Nat} {w w':World} {b o:Nat} {v:Value} (h:Nx lo g w b o v) (k:Kp [] w w'):Nx lo g w' b o v:=⟨h.1,h.2.1,h.2.2.kp k (by simp)⟩
theorem Nx.kg {lo g:Nat} {w w':World} {b o:Nat} {v:Value} (h:Nx lo g w b o v) (k:Kp [g] w w'):Nx lo g w' b o v:=⟨h.1,h.2.1,h.2.2.kp k (by simpa using h.2.1)⟩
def Ap (v:Value) (w:World):Mem:=fun b o u=>some b ≠ v.ownBlock /\ Cl w.heap b o u
structure CbS where
 b:Nat
 c1:Value
 c2:Value
 c3:Value
 c5:Value
 c6:Value
section
variable {C:Mem} {w:World} {B:BoT}
theorem mI' (hS:Sub C w) {v:Value} (hb:BoV C B v) (hE:B.ents.length <= 64) (hC:∀ x ∈ B.ents,x.ctors.length <= 16) :
  CC 7 #[v] w (fun e w'=>∃ vo ve vp,e = .returned (.agg #[iV B.vars,vo,ve,iV B.nat,vp]) /\ SV rOr (Ap ve w') B.orders vo /\ Own rEn 37 w.heap.size w' ve B.ents /\ SV rPr (Ap ve w') B.prims vp /\ Kp [] w w'):=by
 refine oF Tryz.func7 ?_;obtain ⟨v1,v2,v3,rfl,⟨ao,co,rfl,hO1,_⟩,⟨ae,ce,rfl,hE1,_⟩,⟨ap,cp,rfl,hP1,_⟩⟩:=hb;have lO:=hO1.1;have lP:=hP1.1;refine dD' (args:=[_]) 85 [.cell 2 26] Tryz.func7 rfl rfl rfl (Nat.le_of_ble_eq_true rfl) ?_;refine aS' τok ?_;refine new fun b1 w1 hb1 h1 hs1 hk1=>?_;refine new fun b2 w2 hb2 h2 hs2 hk2=>?_;have h1:Bk w2.heap b1 [iV B.vars,.slice ao B.orders.length co,.slice ae B.ents.length ce,iV B.nat,.slice ap B.prims.length cp] 26:=Bk.kp h1 hk2 (by simp);have k02:=hk1.tr hk2;have hS2:=hS.tr k02;have hl2:=h2.lt;refine eO' τok (σ:=Nat × Value × Value) (fun q=>[(1,pt b1),(2,pt b2),(3,pt q.1)])
  (fun q w'=>Kp [] w2 w' /\ w2.heap.size <= q.1 /\ Bk w'.heap q.1 [iV B.vars,q.2.1,.slice none 0 0,iV B.nat,q.2.2] 26 /\ SV rOr (Im [q.1,b2] w') B.orders q.2.1 /\ SV rPr (Im [q.1,b2] w') B.prims q.2.2) ?_ ?_
 ·have fin:∀ (b:Nat) (v7 v11:Value) (u:World) {ud:World},Kp [] w2 ud -> w2.heap.size <= b -> Bk u.heap b [iV B.vars,v7,.slice none 0 0,iV B.nat,v11] 26 -> Own rOr 150 w2.heap.size ud v7 B.orders -> Own rPr 113 w2.heap.size ud v11 B.prims -> (∀ g,v7.ownBlock = some g -> g ≠ b) -> (∀ g,v11.ownBlock = some g -> g ≠ b) -> Kp [b] ud u ->
    Kp [] w2 u /\ w2.heap.size <= b /\ Bk u.heap b [iV B.vars,v7,.slice none 0 0,iV B.nat,v11] 26 /\ SV rOr (Im [b,b2] u) B.orders v7 /\ SV rPr (Im [b,b2] u) B.prims v11:=fun b v7 v11 u ud k n hB h7 h11 f7 f11 hk=>by
   have h7':=Own.kpG h7 aT' hk (fun g hg hx=>f7 g hg (by simpa using hx));have h11':=Own.kpG h11 cA' hk (fun g hg hx=>f11 g hg (by simpa using hx));refine ⟨k.trans hk fun x hx hl=>by simp at hx; omega,n,hB,(h7'.svO aT' lO).mono fun c o z hz=>⟨hz.2,?_⟩,(h11'.svO cA' lP).mono fun c o z hz=>⟨hz.2,?_⟩⟩
   ·have a1:=f7 c hz.1
    have a2:=(h7.block c hz.1).1;simp only [JJ,JZ,or_false,not_or];exact ⟨a1,by omega⟩
   ·have a1:=f11 c hz.1
    have a2:=(h11.block c hz.1).1;simp only [JJ,JZ,or_false,not_or];exact ⟨a1,by omega⟩
  refine aq' τok (fun z=>Kp [] w2 z) ?_;refine rV τok [0,1,2,3,5,6,9,10] 7 (mB 15 [4,7,8,11,12,13,14]) (kQd w2) ?_;refine lk h1 ?_;refine lk h1 ?_;refine lk h1 ?_;refine lk h1 ?_;obtain ⟨u0,hu0⟩:∃ u0,u0 = (dr w2):=⟨_,rfl⟩
  have k0:Kp [] w2 u0:=by rw [hu0]; exact (Kp.refl [] w2).dr _
  rw [<- hu0];refine tp' τok 4 8 13 6 (mB 15 [7,8,11,12,13,14]) (mB 15 [4,7,11,12,13,14]) (mB 15 [4,7,8,11,12,14]) rfl rfl rfl rfl rfl rfl rfl (by kernel_rfl) ?_ ?_ ?_
  ·skip
   refine fill [] rfl ?_;refine new fun b4 u1 hb4 hB4 hs1 hk1=>?_;have n4:w2.heap.size <= b4:=by have:=k0.size; omega
   have k1:=k0.tr hk1;refine ⟨.inl k1,?_⟩;refine tp' τok 7 8 13 5 (mB 15 [8,11,12,13,14]) (mB 15 [7,11,12,13,14]) (mB 15 [7,8,11,12,14]) rfl rfl rfl rfl rfl rfl rfl (by kernel_rfl) ?_ ?_ ?_
   ·skip
    have hQ:Own rOr 150 w2.heap.size u1 (.slice (some ⟨b4,0,none⟩) 0 0) []:=Own.empty rOr hB4 n4;refine hQ.apF τok rfl rfl (by decide) aT' (hS2.tr k1) B.orders hO1 (by simp only [JU]; omega) (by simp only [JU,maxLen]; omega) fun v7 u2 hO7 hk2 hv7=>?_;rw [List.nil_append] at hO7;have k2:=k1.own hk2 hQ;have hk2:Kp [b4] u1 u2:=hk2;refine ⟨.inl k2,?_⟩;refine db' τok 8 13 4 (mR 15 11) (mB 15 [8,11,12,14]) rfl rfl rfl rfl rfl (by kernel_rfl) ?_ ?_
    ·skip
     refine fill [] rfl ?_;refine new fun b8 u3 hb8 hB8 hs3 hk3=>?_;have f7_8:∀ g,Value.ownBlock v7 = some g -> g ≠ b8:=fun g hg=>by have:=(hO7.block g hg).2; omega
     have hO7:=hO7.kp hk3;have n8:w2.heap.size <= b8:=by have:=k2.size; omega
     have k3:=k2.tr hk3;refine ⟨.inl k3,?_⟩;refine db' τok 11 13 3 (mR 15 12) (mB 15 [11,12,14]) rfl rfl rfl rfl rfl (by kernel_rfl) ?_ ?_
     ·skip
      have hQ:Own rPr 113 w2.heap.size u3 (.slice (some ⟨b8,0,none⟩) 0 0) []:=Own.empty rPr hB8 n8;refine hQ.apF τok rfl rfl (by decide) cA' (hS2.tr k3) B.prims hP1 (by simp only [JU]; omega) (by simp only [JU,maxLen]; omega) fun v11 u4 hO11 hk4 hv11=>?_;rw [List.nil_append] at hO11;have k4:=k3.own hk4 hQ;have hk4:Kp [b8] u3 u4:=hk4;have hO7:=Own.kpG hO7 aT' hk4 (fun g hg hx=>f7_8 g hg (by simpa using hx));refine ⟨.inl k4,?_⟩;refine db' τok 12 13 2 (mR 15 13) (mB 15 [12,14]) rfl rfl rfl rfl rfl (by kernel_rfl) ?_ ?_
      ·skip
       obtain ⟨a7,e7,q7⟩:=hO7.len;subst q7;obtain ⟨a11,e11,q11⟩:=hO11.len;subst q11;refine ⟨.inl k4,?_⟩;refine nV τok 13 1 (mR 15 14) ?_;refine new fun b13 u5 hb13 hB13 hs5 hk5=>?_;have f7_13:∀ g,Value.ownBlock (.slice a7 B.orders.length e7) = some g -> g ≠ b13:=fun g hg=>by have:=(hO7.block g hg).2; omega
       have f11_13:∀ g,Value.ownBlock (.slice a11 B.prims.length e11) = some g -> g ≠ b13:=fun g hg=>by have:=(hO11.block g hg).2; omega
       have hO7:=hO7.kp hk5;have hO11:=hO11.kp hk5;have n13:w2.heap.size <= b13:=by have:=k4.size; omega
       have k5:=k4.tr hk5;refine ⟨.inl k5,?_⟩;refine nV τok 14 0 (mR 15 15) ?_;refine stN (vs:=[iV B.vars,.slice a7 B.orders.length e7,.slice none 0 0,iV B.nat,.slice a11 B.prims.length e11]) hB13 rfl (by simp [Value.oneCell']) fun u hB13 hs hk=>?_;refine ⟨.inr (by kernel_rfl),?_⟩;refine dV ?_;exact ⟨(b13,.slice a7 B.orders.length e7,.slice a11 B.prims.length e11),rfl,⟨rfl,rfl,rfl,trivial⟩,fin b13 _ _ u k5 n13 hB13 hO7 hO11 f7_13 f11_13 hk⟩
      ·skip
       refine new fun b13 u5 hb13 hB13 hs5 hk5=>?_;have f7_13:∀ g,Value.ownBlock v7 = some g -> g ≠ b13:=fun g hg=>by have:=(hO7.block g hg).2; omega
       have f11_13:∀ g,Value.ownBlock v11 = some g -> g ≠ b13:=fun g hg=>by have:=(hO11.block g hg).2; omega
       have hO7:=hO7.kp hk5;have hO11:=hO11.kp hk5;have n13:w2.heap.size <= b13:=by have:=k4.size; omega
       have k5:=k4.tr hk5;refine ⟨.inl k5,?_⟩;refine nV τok 12 1 (mR 15 14) ?_;obtain ⟨a7,e7,q7⟩:=hO7.len;subst q7;obtain ⟨a11,e11,q11⟩:=hO11.len;subst q11;refine ⟨.inl k5,?_⟩;refine nV τok 14 0 (mR 15 15) ?_;refine stN (vs:=[iV B.vars,.slice a7 B.orders.length e7,.slice none 0 0,iV B.nat,.slice a11 B.prims.length e11]) hB13 rfl (by simp [Value.oneCell']) fun u hB13 hs hk=>?_;refine ⟨.inr (by kernel_rfl),?_⟩;refine dV ?_;exact ⟨(b13,.slice a7 B.orders.length e7,.slice a11 B.prims.length e11),rfl,⟨rfl,rfl,rfl,trivial⟩,fin b13 _ _ u k5 n13 hB13 hO7 hO11 f7_13 f11_13 hk⟩
     ·skip
      refine new fun b13 u4 hb13 hB13 hs4 hk4=>?_;have d8_13:b8 ≠ b13:=by have:=hB8.lt; omega
      have f7_13:∀ g,Value.ownBlock v7 = some g -> g ≠ b13:=fun g hg=>by have:=(hO7.block g hg).2; omega
      have hB8:=hB8.kp hk4 (by simp);have hO7:=hO7.kp hk4;have n13:w2.heap.size <= b13:=by have:=k3.size; omega
      have k4:=k3.tr hk4;refine ⟨.inl k4,?_⟩;refine nV τok 11 2 (mB 15 [12,14]) ?_;have hQ:Own rPr 113 w2.heap.size u4 (.slice (some ⟨b8,0,none⟩) 0 0) []:=Own.empty rPr hB8 n8;refine hQ.apF τok rfl rfl (by decide) cA' (hS2.tr k4) B.prims hP1 (by simp only [JU]; omega) (by simp only [JU,maxLen]; omega) fun v11 u5 hO11 hk5 hv11=>?_;rw [List.nil_append] at hO11;have k5:=k4.own hk5 hQ;have hk5:Kp [b8] u4 u5:=hk5;have g8_13:b8 ≠ b13:=d8_13;have f11_13:∀ g,v11.ownBlock = some g -> g ≠ b13:=fun g hg=>by
       have:=hB13.lt;rcases hv11 with h | h <;> rw [h] at hg
       ·have hg:some b8 = some g:=hg
        have:=JB hg;omega
       ·have:=JB hg
        omega
      have hB13:=hB13.kp hk5 (by simp; exact g8_13.symm);have hO7:=Own.kpG hO7 aT' hk5 (fun g hg hx=>f7_8 g hg (by simpa using hx));refine ⟨.inl k5,?_⟩;refine nV τok 12 1 (mR 15 14) ?_;obtain ⟨a7,e7,q7⟩:=hO7.len;subst q7;obtain ⟨a11,e11,q11⟩:=hO11.len;subst q11;refine ⟨.inl k5,?_⟩;refine nV τok 14 0 (mR 15 15) ?_;refine stN (vs:=[iV B.vars,.slice a7 B.orders.length e7,.slice none 0 0,iV B.nat,.slice a11 B.prims.length e11]) hB13 rfl (by simp [Value.oneCell']) fun u hB13 hs hk=>?_;refine ⟨.inr (by kernel_rfl),?_⟩;refine dV ?_;exact ⟨(b13,.slice a7 B.orders.length e7,.slice a11 B.prims.length e11),rfl,⟨rfl,rfl,rfl,trivial⟩,fin b13 _ _ u k5 n13 hB13 hO7 hO11 f7_13 f11_13 hk⟩
    ·skip
     refine new fun b13 u3 hb13 hB13 hs3 hk3=>?_;have f7_13:∀ g,Value.ownBlock v7 = some g -> g ≠ b13:=fun g hg=>by have:=(hO7.block g hg).2; omega
     have hO7:=hO7.kp hk3;have n13:w2.heap.size <= b13:=by have:=k2.size; omega
     have k3:=k2.tr hk3;refine ⟨.inl k3,?_⟩;refine nV τok 8 3 (mB 15 [11,12,14]) ?_;refine fill [] rfl ?_;refine new fun b8 u4 hb8 hB8 hs4 hk4=>?_;have d13_8:b13 ≠ b8:=by have:=hB13.lt; omega
     have f7_8:∀ g,Value.ownBlock v7 = some g -> g ≠ b8:=fun g hg=>by have:=(hO7.block g hg).2; omega
     have hB13:=hB13.kp hk4 (by simp);have hO7:=hO7.kp hk4;have n8:w2.heap.size <= b8:=by have:=k3.size; omega
     have k4:=k3.tr hk4;refine ⟨.inl k4,?_⟩;refine nV τok 11 2 (mB 15 [12,14]) ?_;have hQ:Own rPr 113 w2.heap.size u4 (.slice (some ⟨b8,0,none⟩) 0 0) []:=Own.empty rPr hB8 n8;refine hQ.apF τok rfl rfl (by decide) cA' (hS2.tr k4) B.prims hP1 (by simp only [JU]; omega) (by simp only [JU,maxLen]; omega) fun v11 u5 hO11 hk5 hv11=>?_;rw [List.nil_append] at hO11;have k5:=k4.own hk5 hQ;have hk5:Kp [b8] u4 u5:=hk5;have g8_13:b8 ≠ b13:=d13_8.symm;have f11_13:∀ g,v11.ownBlock = some g -> g ≠ b13:=fun g hg=>by
      have:=hB13.lt;rcases hv11 with h | h <;> rw [h] at hg
      ·have hg:some b8 = some g:=hg
       have:=JB hg;omega
      ·have:=JB hg
       omega
     have hB13:=hB13.kp hk5 (by simp; exact g8_13.symm);have hO7:=Own.kpG hO7 aT' hk5 (fun g hg hx=>f7_8 g hg (by simpa using hx));refine ⟨.inl k5,?_⟩;refine nV τok 12 1 (mR 15 14) ?_;obtain ⟨a7,e7,q7⟩:=hO7.len;subst q7;obtain ⟨a11,e11,q11⟩:=hO11.len;subst q11;refine ⟨.inl k5,?_⟩;refine nV τok 14 0 (mR 15 15) ?_;refine stN (vs:=[iV B.vars,.slice a7 B.orders.length e7,.slice none 0 0,iV B.nat,.slice a11 B.prims.length e11]) hB13 rfl (by simp [Value.oneCell']) fun u hB13 hs hk=>?_;refine ⟨.inr (by kernel_rfl),?_⟩;refine dV ?_;exact ⟨(b13,.slice a7 B.orders.length e7,.slice a11 B.prims.length e11),rfl,⟨rfl,rfl,rfl,trivial⟩,fin b13 _ _ u k5 n13 hB13 hO7 hO11 f7_13 f11_13 hk⟩
   ·skip
    refine fill [] rfl ?_;refine new fun b8 u2 hb8 hB8 hs2 hk2=>?_;have d4_8:b4 ≠ b8:=by have:=hB4.lt; omega
    have hB4:=hB4.kp hk2 (by simp);have n8:w2.heap.size <= b8:=by have:=k1.size; omega
    have k2:=k1.tr hk2;refine ⟨.inl k2,?_⟩;refine db' τok 7 13 4 (mR 15 11) (mB 15 [7,11,12,14]) rfl rfl rfl rfl rfl (by kernel_rfl) ?_ ?_
    ·skip
     have hQ:Own rOr 150 w2.heap.size u2 (.slice (some ⟨b4,0,none⟩) 0 0) []:=Own.empty rOr hB4 n4;refine hQ.apF τok rfl rfl (by decide) aT' (hS2.tr k2) B.orders hO1 (by simp only [JU]; omega) (by simp only [JU,maxLen]; omega) fun v7 u3 hO7 hk3 hv7=>?_;rw [List.nil_append] at hO7;have k3:=k2.own hk3 hQ;have hk3:Kp [b4] u2 u3:=hk3;have g4_8:b4 ≠ b8:=d4_8;have f7_8:∀ g,v7.ownBlock = some g -> g ≠ b8:=fun g hg=>by
      have:=hB8.lt;rcases hv7 with h | h <;> rw [h] at hg
      ·have hg:some b4 = some g:=hg
       have:=JB hg;omega
      ·have:=JB hg
       omega
     have hB8:=hB8.kp hk3 (by simp; exact g4_8.symm);refine ⟨.inl k3,?_⟩;refine db' τok 11 13 3 (mR 15 12) (mB 15 [11,12,14]) rfl rfl rfl rfl rfl (by kernel_rfl) ?_ ?_
     ·skip
      have hQ:Own rPr 113 w2.heap.size u3 (.slice (some ⟨b8,0,none⟩) 0 0) []:=Own.empty rPr hB8 n8;refine hQ.apF τok rfl rfl (by decide) cA' (hS2.tr k3) B.prims hP1 (by simp only [JU]; omega) (by simp only [JU,maxLen]; omega) fun v11 u4 hO11 hk4 hv11=>?_;rw [List.nil_append] at hO11;have k4:=k3.own hk4 hQ;have hk4:Kp [b8] u3 u4:=hk4;have hO7:=Own.kpG hO7 aT' hk4 (fun g hg hx=>f7_8 g hg (by simpa using hx));refine ⟨.inl k4,?_⟩;refine db' τok 12 13 2 (mR 15 13) (mB 15 [12,14]) rfl rfl rfl rfl rfl (by kernel_rfl) ?_ ?_
      ·skip
       obtain ⟨a7,e7,q7⟩:=hO7.len;subst q7;obtain ⟨a11,e11,q11⟩:=hO11.len;subst q11;refine ⟨.inl k4,?_⟩;refine nV τok 13 1 (mR 15 14) ?_;refine new fun b13 u5 hb13 hB13 hs5 hk5=>?_;have f7_13:∀ g,Value.ownBlock (.slice a7 B.orders.length e7) = some g -> g ≠ b13:=fun g hg=>by have:=(hO7.block g hg).2; omega
       have f11_13:∀ g,Value.ownBlock (.slice a11 B.prims.length e11) = some g -> g ≠ b13:=fun g hg=>by have:=(hO11.block g hg).2; omega
       have hO7:=hO7.kp hk5;have hO11:=hO11.kp hk5;have n13:w2.heap.size <= b13:=by have:=k4.size; omega
       have k5:=k4.tr hk5;refine ⟨.inl k5,?_⟩;refine nV τok 14 0 (mR 15 15) ?_;refine stN (vs:=[iV B.vars,.slice a7 B.orders.length e7,.slice none 0 0,iV B.nat,.slice a11 B.prims.length e11]) hB13 rfl (by simp [Value.oneCell']) fun u hB13 hs hk=>?_;refine ⟨.inr (by kernel_rfl),?_⟩;refine dV ?_;exact ⟨(b13,.slice a7 B.orders.length e7,.slice a11 B.prims.length e11),rfl,⟨rfl,rfl,rfl,trivial⟩,fin b13 _ _ u k5 n13 hB13 hO7 hO11 f7_13 f11_13 hk⟩
      ·skip
       refine new fun b13 u5 hb13 hB13 hs5 hk5=>?_;have f7_13:∀ g,Value.ownBlock v7 = some g -> g ≠ b13:=fun g hg=>by have:=(hO7.block g hg).2; omega
       have f11_13:∀ g,Value.ownBlock v11 = some g -> g ≠ b13:=fun g hg=>by have:=(hO11.block g hg).2; omega
       have hO7:=hO7.kp hk5;have hO11:=hO11.kp hk5;have n13:w2.heap.size <= b13:=by have:=k4.size; omega
       have k5:=k4.tr hk5;refine ⟨.inl k5,?_⟩;refine nV τok 12 1 (mR 15 14) ?_;obtain ⟨a7,e7,q7⟩:=hO7.len;subst q7;obtain ⟨a11,e11,q11⟩:=hO11.len;subst q11;refine ⟨.inl k5,?_⟩;refine nV τok 14 0 (mR 15 15) ?_;refine stN (vs:=[iV B.vars,.slice a7 B.orders.length e7,.slice none 0 0,iV B.nat,.slice a11 B.prims.length e11]) hB13 rfl (by simp [Value.oneCell']) fun u hB13 hs hk=>?_;refine ⟨.inr (by kernel_rfl),?_⟩;refine dV ?_;exact ⟨(b13,.slice a7 B.orders.length e7,.slice a11 B.prims.length e11),rfl,⟨rfl,rfl,rfl,trivial⟩,fin b13 _ _ u k5 n13 hB13 hO7 hO11 f7_13 f11_13 hk⟩
     ·skip
      refine new fun b13 u4 hb13 hB13 hs4 hk4=>?_;have d8_13:b8 ≠ b13:=by have:=hB8.lt; omega
      have f7_13:∀ g,Value.ownBlock v7 = some g -> g ≠ b13:=fun g hg=>by have:=(hO7.block g hg).2; omega
      have hB8:=hB8.kp hk4 (by simp);have hO7:=hO7.kp hk4;have n13:w2.heap.size <= b13:=by have:=k3.size; omega
      have k4:=k3.tr hk4;refine ⟨.inl k4,?_⟩;refine nV τok 11 2 (mB 15 [12,14]) ?_;have hQ:Own rPr 113 w2.heap.size u4 (.slice (some ⟨b8,0,none⟩) 0 0) []:=Own.empty rPr hB8 n8;refine hQ.apF τok rfl rfl (by decide) cA' (hS2.tr k4) B.prims hP1 (by simp only [JU]; omega) (by simp only [JU,maxLen]; omega) fun v11 u5 hO11 hk5 hv11=>?_;rw [List.nil_append] at hO11;have k5:=k4.own hk5 hQ;have hk5:Kp [b8] u4 u5:=hk5;have g8_13:b8 ≠ b13:=d8_13;have f11_13:∀ g,v11.ownBlock = some g -> g ≠ b13:=fun g hg=>by
       have:=hB13.lt;rcases hv11 with h | h <;> rw [h] at hg
       ·have hg:some b8 = some g:=hg
        have:=JB hg;omega
       ·have:=JB hg
        omega
      have hB13:=hB13.kp hk5 (by simp; exact g8_13.symm);have hO7:=Own.kpG hO7 aT' hk5 (fun g hg hx=>f7_8 g hg (by simpa using hx));refine ⟨.inl k5,?_⟩;refine nV τok 12 1 (mR 15 14) ?_;obtain ⟨a7,e7,q7⟩:=hO7.len;subst q7;obtain ⟨a11,e11,q11⟩:=hO11.len;subst q11;refine ⟨.inl k5,?_⟩;refine nV τok 14 0 (mR 15 15) ?_;refine stN (vs:=[iV B.vars,.slice a7 B.orders.length e7,.slice none 0 0,iV B.nat,.slice a11 B.prims.length e11]) hB13 rfl (by simp [Value.oneCell']) fun u hB13 hs hk=>?_;refine ⟨.inr (by kernel_rfl),?_⟩;refine dV ?_;exact ⟨(b13,.slice a7 B.orders.length e7,.slice a11 B.prims.length e11),rfl,⟨rfl,rfl,rfl,trivial⟩,fin b13 _ _ u k5 n13 hB13 hO7 hO11 f7_13 f11_13 hk⟩
    ·skip
     refine new fun b13 u3 hb13 hB13 hs3 hk3=>?_;have d4_13:b4 ≠ b13:=by have:=hB4.lt; omega
     have d8_13:b8 ≠ b13:=by have:=hB8.lt; omega
     have hB4:=hB4.kp hk3 (by simp);have hB8:=hB8.kp hk3 (by simp);have n13:w2.heap.size <= b13:=by have:=k2.size; omega
     have k3:=k2.tr hk3;refine ⟨.inl k3,?_⟩;refine nV τok 7 3 (mB 15 [11,12,14]) ?_;have hQ:Own rOr 150 w2.heap.size u3 (.slice (some ⟨b4,0,none⟩) 0 0) []:=Own.empty rOr hB4 n4;refine hQ.apF τok rfl rfl (by decide) aT' (hS2.tr k3) B.orders hO1 (by simp only [JU]; omega) (by simp only [JU,maxLen]; omega) fun v7 u4 hO7 hk4 hv7=>?_;rw [List.nil_append] at hO7;have k4:=k3.own hk4 hQ;have hk4:Kp [b4] u3 u4:=hk4;have g4_8:b4 ≠ b8:=d4_8;have f7_8:∀ g,v7.ownBlock = some g -> g ≠ b8:=fun g hg=>by
      have:=hB8.lt;rcases hv7 with h | h <;> rw [h] at hg
      ·have hg:some b4 = some g:=hg
       have:=JB hg;omega
      ·have:=JB hg
       omega
     have g4_13:b4 ≠ b13:=d4_13;have f7_13:∀ g,v7.ownBlock = some g -> g ≠ b13:=fun g hg=>by
      have:=hB13.lt;rcases hv7 with h | h <;> rw [h] at hg
      ·have hg:some b4 = some g:=hg
       have:=JB hg;omega
      ·have:=JB hg
       omega
     have hB8:=hB8.kp hk4 (by simp; exact g4_8.symm);have hB13:=hB13.kp hk4 (by simp; exact g4_13.symm);refine ⟨.inl k4,?_⟩;refine nV τok 11 2 (mB 15 [12,14]) ?_;have hQ:Own rPr 113 w2.heap.size u4 (.slice (some ⟨b8,0,none⟩) 0 0) []:=Own.empty rPr hB8 n8;refine hQ.apF τok rfl rfl (by decide) cA' (hS2.tr k4) B.prims hP1 (by simp only [JU]; omega) (by simp only [JU,maxLen]; omega) fun v11 u5 hO11 hk5 hv11=>?_;rw [List.nil_append] at hO11;have k5:=k4.own hk5 hQ;have hk5:Kp [b8] u4 u5:=hk5;have g8_13:b8 ≠ b13:=d8_13;have f11_13:∀ g,v11.ownBlock = some g -> g ≠ b13:=fun g hg=>by
      have:=hB13.lt;rcases hv11 with h | h <;> rw [h] at hg
      ·have hg:some b8 = some g:=hg
       have:=JB hg;omega
      ·have:=JB hg
       omega
     have hB13:=hB13.kp hk5 (by simp; exact g8_13.symm);have hO7:=Own.kpG hO7 aT' hk5 (fun g hg hx=>f7_8 g hg (by simpa using hx));refine ⟨.inl k5,?_⟩;refine nV τok 12 1 (mR 15 14) ?_;obtain ⟨a7,e7,q7⟩:=hO7.len;subst q7;obtain ⟨a11,e11,q11⟩:=hO11.len;subst q11;refine ⟨.inl k5,?_⟩;refine nV τok 14 0 (mR 15 15) ?_;refine stN (vs:=[iV B.vars,.slice a7 B.orders.length e7,.slice none 0 0,iV B.nat,.slice a11 B.prims.length e11]) hB13 rfl (by simp [Value.oneCell']) fun u hB13 hs hk=>?_;refine ⟨.inr (by kernel_rfl),?_⟩;refine dV ?_;exact ⟨(b13,.slice a7 B.orders.length e7,.slice a11 B.prims.length e11),rfl,⟨rfl,rfl,rfl,trivial⟩,fin b13 _ _ u k5 n13 hB13 hO7 hO11 f7_13 f11_13 hk⟩
   ·skip
    refine new fun b13 u2 hb13 hB13 hs2 hk2=>?_;have d4_13:b4 ≠ b13:=by have:=hB4.lt; omega
    have hB4:=hB4.kp hk2 (by simp);have n13:w2.heap.size <= b13:=by have:=k1.size; omega
    have k2:=k1.tr hk2;refine ⟨.inl k2,?_⟩;refine db' τok 7 8 4 (mB 15 [8,11,12,14]) (mB 15 [7,11,12,14]) rfl rfl rfl rfl rfl (by kernel_rfl) ?_ ?_
    ·skip
     have hQ:Own rOr 150 w2.heap.size u2 (.slice (some ⟨b4,0,none⟩) 0 0) []:=Own.empty rOr hB4 n4;refine hQ.apF τok rfl rfl (by decide) aT' (hS2.tr k2) B.orders hO1 (by simp only [JU]; omega) (by simp only [JU,maxLen]; omega) fun v7 u3 hO7 hk3 hv7=>?_;rw [List.nil_append] at hO7;have k3:=k2.own hk3 hQ;have hk3:Kp [b4] u2 u3:=hk3;have g4_13:b4 ≠ b13:=d4_13;have f7_13:∀ g,v7.ownBlock = some g -> g ≠ b13:=fun g hg=>by
      have:=hB13.lt;rcases hv7 with h | h <;> rw [h] at hg
      ·have hg:some b4 = some g:=hg
       have:=JB hg;omega
      ·have:=JB hg
       omega
     have hB13:=hB13.kp hk3 (by simp; exact g4_13.symm);refine ⟨.inl k3,?_⟩;refine nV τok 8 3 (mB 15 [11,12,14]) ?_;refine fill [] rfl ?_;refine new fun b8 u4 hb8 hB8 hs4 hk4=>?_;have d13_8:b13 ≠ b8:=by have:=hB13.lt; omega
     have f7_8:∀ g,Value.ownBlock v7 = some g -> g ≠ b8:=fun g hg=>by have:=(hO7.block g hg).2; omega
     have hB13:=hB13.kp hk4 (by simp);have hO7:=hO7.kp hk4;have n8:w2.heap.size <= b8:=by have:=k3.size; omega
     have k4:=k3.tr hk4;refine ⟨.inl k4,?_⟩;refine nV τok 11 2 (mB 15 [12,14]) ?_;have hQ:Own rPr 113 w2.heap.size u4 (.slice (some ⟨b8,0,none⟩) 0 0) []:=Own.empty rPr hB8 n8;refine hQ.apF τok rfl rfl (by decide) cA' (hS2.tr k4) B.prims hP1 (by simp only [JU]; omega) (by simp only [JU,maxLen]; omega) fun v11 u5 hO11 hk5 hv11=>?_;rw [List.nil_append] at hO11;have k5:=k4.own hk5 hQ;have hk5:Kp [b8] u4 u5:=hk5;have g8_13:b8 ≠ b13:=d13_8.symm;have f11_13:∀ g,v11.ownBlock = some g -> g ≠ b13:=fun g hg=>by
      have:=hB13.lt;rcases hv11 with h | h <;> rw [h] at hg
      ·have hg:some b8 = some g:=hg
       have:=JB hg;omega
      ·have:=JB hg
       omega
     have hB13:=hB13.kp hk5 (by simp; exact g8_13.symm);have hO7:=Own.kpG hO7 aT' hk5 (fun g hg hx=>f7_8 g hg (by simpa using hx));refine ⟨.inl k5,?_⟩;refine nV τok 12 1 (mR 15 14) ?_;obtain ⟨a7,e7,q7⟩:=hO7.len;subst q7;obtain ⟨a11,e11,q11⟩:=hO11.len;subst q11;refine ⟨.inl k5,?_⟩;refine nV τok 14 0 (mR 15 15) ?_;refine stN (vs:=[iV B.vars,.slice a7 B.orders.length e7,.slice none 0 0,iV B.nat,.slice a11 B.prims.length e11]) hB13 rfl (by simp [Value.oneCell']) fun u hB13 hs hk=>?_;refine ⟨.inr (by kernel_rfl),?_⟩;refine dV ?_;exact ⟨(b13,.slice a7 B.orders.length e7,.slice a11 B.prims.length e11),rfl,⟨rfl,rfl,rfl,trivial⟩,fin b13 _ _ u k5 n13 hB13 hO7 hO11 f7_13 f11_13 hk⟩
    ·skip
     refine fill [] rfl ?_;refine new fun b8 u3 hb8 hB8 hs3 hk3=>?_;have d4_8:b4 ≠ b8:=by have:=hB4.lt; omega
     have d13_8:b13 ≠ b8:=by have:=hB13.lt; omega
     have hB4:=hB4.kp hk3 (by simp);have hB13:=hB13.kp hk3 (by simp);have n8:w2.heap.size <= b8:=by have:=k2.size; omega
     have k3:=k2.tr hk3;refine ⟨.inl k3,?_⟩;refine nV τok 7 3 (mB 15 [11,12,14]) ?_;have hQ:Own rOr 150 w2.heap.size u3 (.slice (some ⟨b4,0,none⟩) 0 0) []:=Own.empty rOr hB4 n4;refine hQ.apF τok rfl rfl (by decide) aT' (hS2.tr k3) B.orders hO1 (by simp only [JU]; omega) (by simp only [JU,maxLen]; omega) fun v7 u4 hO7 hk4 hv7=>?_;rw [List.nil_append] at hO7;have k4:=k3.own hk4 hQ;have hk4:Kp [b4] u3 u4:=hk4;have g4_13:b4 ≠ b13:=d4_13;have f7_13:∀ g,v7.ownBlock = some g -> g ≠ b13:=fun g hg=>by
      have:=hB13.lt;rcases hv7 with h | h <;> rw [h] at hg
      ·have hg:some b4 = some g:=hg
       have:=JB hg;omega
      ·have:=JB hg
       omega
     have g4_8:b4 ≠ b8:=d4_8;have f7_8:∀ g,v7.ownBlock = some g -> g ≠ b8:=fun g hg=>by
      have:=hB8.lt;rcases hv7 with h | h <;> rw [h] at hg
      ·have hg:some b4 = some g:=hg
       have:=JB hg;omega
      ·have:=JB hg
       omega
     have hB13:=hB13.kp hk4 (by simp; exact g4_13.symm);have hB8:=hB8.kp hk4 (by simp; exact g4_8.symm);refine ⟨.inl k4,?_⟩;refine nV τok 11 2 (mB 15 [12,14]) ?_;have hQ:Own rPr 113 w2.heap.size u4 (.slice (some ⟨b8,0,none⟩) 0 0) []:=Own.empty rPr hB8 n8;refine hQ.apF τok rfl rfl (by decide) cA' (hS2.tr k4) B.prims hP1 (by simp only [JU]; omega) (by simp only [JU,maxLen]; omega) fun v11 u5 hO11 hk5 hv11=>?_;rw [List.nil_append] at hO11;have k5:=k4.own hk5 hQ;have hk5:Kp [b8] u4 u5:=hk5;have g8_13:b8 ≠ b13:=d13_8.symm;have f11_13:∀ g,v11.ownBlock = some g -> g ≠ b13:=fun g hg=>by
      have:=hB13.lt;rcases hv11 with h | h <;> rw [h] at hg
      ·have hg:some b8 = some g:=hg
       have:=JB hg;omega
      ·have:=JB hg
       omega
     have hB13:=hB13.kp hk5 (by simp; exact g8_13.symm);have hO7:=Own.kpG hO7 aT' hk5 (fun g hg hx=>f7_8 g hg (by simpa using hx));refine ⟨.inl k5,?_⟩;refine nV τok 12 1 (mR 15 14) ?_;obtain ⟨a7,e7,q7⟩:=hO7.len;subst q7;obtain ⟨a11,e11,q11⟩:=hO11.len;subst q11;refine ⟨.inl k5,?_⟩;refine nV τok 14 0 (mR 15 15) ?_;refine stN (vs:=[iV B.vars,.slice a7 B.orders.length e7,.slice none 0 0,iV B.nat,.slice a11 B.prims.length e11]) hB13 rfl (by simp [Value.oneCell']) fun u hB13 hs hk=>?_;refine ⟨.inr (by kernel_rfl),?_⟩;refine dV ?_;exact ⟨(b13,.slice a7 B.orders.length e7,.slice a11 B.prims.length e11),rfl,⟨rfl,rfl,rfl,trivial⟩,fin b13 _ _ u k5 n13 hB13 hO7 hO11 f7_13 f11_13 hk⟩
  ·skip
   refine fill [] rfl ?_;refine new fun b8 u1 hb8 hB8 hs1 hk1=>?_;have n8:w2.heap.size <= b8:=by have:=k0.size; omega
   have k1:=k0.tr hk1;refine ⟨.inl k1,?_⟩;refine db' τok 4 13 5 (mB 15 [7,11,12,13,14]) (mB 15 [4,7,11,12,14]) rfl rfl rfl rfl rfl (by kernel_rfl) ?_ ?_
   ·skip
    refine fill [] rfl ?_;refine new fun b4 u2 hb4 hB4 hs2 hk2=>?_;have d8_4:b8 ≠ b4:=by have:=hB8.lt; omega
    have hB8:=hB8.kp hk2 (by simp);have n4:w2.heap.size <= b4:=by have:=k1.size; omega
    have k2:=k1.tr hk2;refine ⟨.inl k2,?_⟩;refine db' τok 7 13 4 (mR 15 11) (mB 15 [7,11,12,14]) rfl rfl rfl rfl rfl (by kernel_rfl) ?_ ?_
    ·skip
     have hQ:Own rOr 150 w2.heap.size u2 (.slice (some ⟨b4,0,none⟩) 0 0) []:=Own.empty rOr hB4 n4;refine hQ.apF τok rfl rfl (by decide) aT' (hS2.tr k2) B.orders hO1 (by simp only [JU]; omega) (by simp only [JU,maxLen]; omega) fun v7 u3 hO7 hk3 hv7=>?_;rw [List.nil_append] at hO7;have k3:=k2.own hk3 hQ;have hk3:Kp [b4] u2 u3:=hk3;have g4_8:b4 ≠ b8:=d8_4.symm;have f7_8:∀ g,v7.ownBlock = some g -> g ≠ b8:=fun g hg=>by
      have:=hB8.lt;rcases hv7 with h | h <;> rw [h] at hg
      ·have hg:some b4 = some g:=hg
       have:=JB hg;omega
      ·have:=JB hg
       omega
     have hB8:=hB8.kp hk3 (by simp; exact g4_8.symm);refine ⟨.inl k3,?_⟩;refine db' τok 11 13 3 (mR 15 12) (mB 15 [11,12,14]) rfl rfl rfl rfl rfl (by kernel_rfl) ?_ ?_
     ·skip
      have hQ:Own rPr 113 w2.heap.size u3 (.slice (some ⟨b8,0,none⟩) 0 0) []:=Own.empty rPr hB8 n8;refine hQ.apF τok rfl rfl (by decide) cA' (hS2.tr k3) B.prims hP1 (by simp only [JU]; omega) (by simp only [JU,maxLen]; omega) fun v11 u4 hO11 hk4 hv11=>?_;rw [List.nil_append] at hO11;have k4:=k3.own hk4 hQ;have hk4:Kp [b8] u3 u4:=hk4;have hO7:=Own.kpG hO7 aT' hk4 (fun g hg hx=>f7_8 g hg (by simpa using hx));refine ⟨.inl k4,?_⟩;refine db' τok 12 13 2 (mR 15 13) (mB 15 [12,14]) rfl rfl rfl rfl rfl (by kernel_rfl) ?_ ?_
      ·skip
       obtain ⟨a7,e7,q7⟩:=hO7.len;subst q7;obtain ⟨a11,e11,q11⟩:=hO11.len;subst q11;refine ⟨.inl k4,?_⟩;refine nV τok 13 1 (mR 15 14) ?_;refine new fun b13 u5 hb13 hB13 hs5 hk5=>?_;have f7_13:∀ g,Value.ownBlock (.slice a7 B.orders.length e7) = some g -> g ≠ b13:=fun g hg=>by have:=(hO7.block g hg).2; omega
       have f11_13:∀ g,Value.ownBlock (.slice a11 B.prims.length e11) = some g -> g ≠ b13:=fun g hg=>by have:=(hO11.block g hg).2; omega
       have hO7:=hO7.kp hk5;have hO11:=hO11.kp hk5;have n13:w2.heap.size <= b13:=by have:=k4.size; omega
       have k5:=k4.tr hk5;refine ⟨.inl k5,?_⟩;refine nV τok 14 0 (mR 15 15) ?_;refine stN (vs:=[iV B.vars,.slice a7 B.orders.length e7,.slice none 0 0,iV B.nat,.slice a11 B.prims.length e11]) hB13 rfl (by simp [Value.oneCell']) fun u hB13 hs hk=>?_;refine ⟨.inr (by kernel_rfl),?_⟩;refine dV ?_;exact ⟨(b13,.slice a7 B.orders.length e7,.slice a11 B.prims.length e11),rfl,⟨rfl,rfl,rfl,trivial⟩,fin b13 _ _ u k5 n13 hB13 hO7 hO11 f7_13 f11_13 hk⟩
      ·skip
       refine new fun b13 u5 hb13 hB13 hs5 hk5=>?_;have f7_13:∀ g,Value.ownBlock v7 = some g -> g ≠ b13:=fun g hg=>by have:=(hO7.block g hg).2; omega
       have f11_13:∀ g,Value.ownBlock v11 = some g -> g ≠ b13:=fun g hg=>by have:=(hO11.block g hg).2; omega
       have hO7:=hO7.kp hk5;have hO11:=hO11.kp hk5;have n13:w2.heap.size <= b13:=by have:=k4.size; omega
       have k5:=k4.tr hk5;refine ⟨.inl k5,?_⟩;refine nV τok 12 1 (mR 15 14) ?_;obtain ⟨a7,e7,q7⟩:=hO7.len;subst q7;obtain ⟨a11,e11,q11⟩:=hO11.len;subst q11;refine ⟨.inl k5,?_⟩;refine nV τok 14 0 (mR 15 15) ?_;refine stN (vs:=[iV B.vars,.slice a7 B.orders.length e7,.slice none 0 0,iV B.nat,.slice a11 B.prims.length e11]) hB13 rfl (by simp [Value.oneCell']) fun u hB13 hs hk=>?_;refine ⟨.inr (by kernel_rfl),?_⟩;refine dV ?_;exact ⟨(b13,.slice a7 B.orders.length e7,.slice a11 B.prims.length e11),rfl,⟨rfl,rfl,rfl,trivial⟩,fin b13 _ _ u k5 n13 hB13 hO7 hO11 f7_13 f11_13 hk⟩
     ·skip
      refine new fun b13 u4 hb13 hB13 hs4 hk4=>?_;have d8_13:b8 ≠ b13:=by have:=hB8.lt; omega
      have f7_13:∀ g,Value.ownBlock v7 = some g -> g ≠ b13:=fun g hg=>by have:=(hO7.block g hg).2; omega
      have hB8:=hB8.kp hk4 (by simp);have hO7:=hO7.kp hk4;have n13:w2.heap.size <= b13:=by have:=k3.size; omega
      have k4:=k3.tr hk4;refine ⟨.inl k4,?_⟩;refine nV τok 11 2 (mB 15 [12,14]) ?_;have hQ:Own rPr 113 w2.heap.size u4 (.slice (some ⟨b8,0,none⟩) 0 0) []:=Own.empty rPr hB8 n8;refine hQ.apF τok rfl rfl (by decide) cA' (hS2.tr k4) B.prims hP1 (by simp only [JU]; omega) (by simp only [JU,maxLen]; omega) fun v11 u5 hO11 hk5 hv11=>?_;rw [List.nil_append] at hO11;have k5:=k4.own hk5 hQ;have hk5:Kp [b8] u4 u5:=hk5;have g8_13:b8 ≠ b13:=d8_13;have f11_13:∀ g,v11.ownBlock = some g -> g ≠ b13:=fun g hg=>by
       have:=hB13.lt;rcases hv11 with h | h <;> rw [h] at hg
       ·have hg:some b8 = some g:=hg
        have:=JB hg;omega
       ·have:=JB hg
        omega
      have hB13:=hB13.kp hk5 (by simp; exact g8_13.symm);have hO7:=Own.kpG hO7 aT' hk5 (fun g hg hx=>f7_8 g hg (by simpa using hx));refine ⟨.inl k5,?_⟩;refine nV τok 12 1 (mR 15 14) ?_;obtain ⟨a7,e7,q7⟩:=hO7.len;subst q7;obtain ⟨a11,e11,q11⟩:=hO11.len;subst q11;refine ⟨.inl k5,?_⟩;refine nV τok 14 0 (mR 15 15) ?_;refine stN (vs:=[iV B.vars,.slice a7 B.orders.length e7,.slice none 0 0,iV B.nat,.slice a11 B.prims.length e11]) hB13 rfl (by simp [Value.oneCell']) fun u hB13 hs hk=>?_;refine ⟨.inr (by kernel_rfl),?_⟩;refine dV ?_;exact ⟨(b13,.slice a7 B.orders.length e7,.slice a11 B.prims.length e11),rfl,⟨rfl,rfl,rfl,trivial⟩,fin b13 _ _ u k5 n13 hB13 hO7 hO11 f7_13 f11_13 hk⟩
    ·skip
     refine new fun b13 u3 hb13 hB13 hs3 hk3=>?_;have d8_13:b8 ≠ b13:=by have:=hB8.lt; omega
     have d4_13:b4 ≠ b13:=by have:=hB4.lt; omega
     have hB8:=hB8.kp hk3 (by simp);have hB4:=hB4.kp hk3 (by simp);have n13:w2.heap.size <= b13:=by have:=k2.size; omega
     have k3:=k2.tr hk3;refine ⟨.inl k3,?_⟩;refine nV τok 7 3 (mB 15 [11,12,14]) ?_;have hQ:Own rOr 150 w2.heap.size u3 (.slice (some ⟨b4,0,none⟩) 0 0) []:=Own.empty rOr hB4 n4;refine hQ.apF τok rfl rfl (by decide) aT' (hS2.tr k3) B.orders hO1 (by simp only [JU]; omega) (by simp only [JU,maxLen]; omega) fun v7 u4 hO7 hk4 hv7=>?_;rw [List.nil_append] at hO7;have k4:=k3.own hk4 hQ;have hk4:Kp [b4] u3 u4:=hk4;have g4_8:b4 ≠ b8:=d8_4.symm;have f7_8:∀ g,v7.ownBlock = some g -> g ≠ b8:=fun g hg=>by
      have:=hB8.lt;rcases hv7 with h | h <;> rw [h] at hg
      ·have hg:some b4 = some g:=hg
       have:=JB hg;omega
      ·have:=JB hg
       omega
     have g4_13:b4 ≠ b13:=d4_13;have f7_13:∀ g,v7.ownBlock = some g -> g ≠ b13:=fun g hg=>by
      have:=hB13.lt;rcases hv7 with h | h <;> rw [h] at hg
      ·have hg:some b4 = some g:=hg
       have:=JB hg;omega
      ·have:=JB hg
       omega
     have hB8:=hB8.kp hk4 (by simp; exact g4_8.symm);have hB13:=hB13.kp hk4 (by simp; exact g4_13.symm);refine ⟨.inl k4,?_⟩;refine nV τok 11 2 (mB 15 [12,14]) ?_;have hQ:Own rPr 113 w2.heap.size u4 (.slice (some ⟨b8,0,none⟩) 0 0) []:=Own.empty rPr hB8 n8;refine hQ.apF τok rfl rfl (by decide) cA' (hS2.tr k4) B.prims hP1 (by simp only [JU]; omega) (by simp only [JU,maxLen]; omega) fun v11 u5 hO11 hk5 hv11=>?_;rw [List.nil_append] at hO11;have k5:=k4.own hk5 hQ;have hk5:Kp [b8] u4 u5:=hk5;have g8_13:b8 ≠ b13:=d8_13;have f11_13:∀ g,v11.ownBlock = some g -> g ≠ b13:=fun g hg=>by
      have:=hB13.lt;rcases hv11 with h | h <;> rw [h] at hg
      ·have hg:some b8 = some g:=hg
       have:=JB hg;omega
      ·have:=JB hg
       omega
     have hB13:=hB13.kp hk5 (by simp; exact g8_13.symm);have hO7:=Own.kpG hO7 aT' hk5 (fun g hg hx=>f7_8 g hg (by simpa using hx));refine ⟨.inl k5,?_⟩;refine nV τok 12 1 (mR 15 14) ?_;obtain ⟨a7,e7,q7⟩:=hO7.len;subst q7;obtain ⟨a11,e11,q11⟩:=hO11.len;subst q11;refine ⟨.inl k5,?_⟩;refine nV τok 14 0 (mR 15 15) ?_;refine stN (vs:=[iV B.vars,.slice a7 B.orders.length e7,.slice none 0 0,iV B.nat,.slice a11 B.prims.length e11]) hB13 rfl (by simp [Value.oneCell']) fun u hB13 hs hk=>?_;refine ⟨.inr (by kernel_rfl),?_⟩;refine dV ?_;exact ⟨(b13,.slice a7 B.orders.length e7,.slice a11 B.prims.length e11),rfl,⟨rfl,rfl,rfl,trivial⟩,fin b13 _ _ u k5 n13 hB13 hO7 hO11 f7_13 f11_13 hk⟩
   ·skip
    refine new fun b13 u2 hb13 hB13 hs2 hk2=>?_;have d8_13:b8 ≠ b13:=by have:=hB8.lt; omega
    have hB8:=hB8.kp hk2 (by simp);have n13:w2.heap.size <= b13:=by have:=k1.size; omega
    have k2:=k1.tr hk2;refine ⟨.inl k2,?_⟩;refine nV τok 4 4 (mB 15 [7,11,12,14]) ?_;refine fill [] rfl ?_;refine new fun b4 u3 hb4 hB4 hs3 hk3=>?_;have d8_4:b8 ≠ b4:=by have:=hB8.lt; omega
    have d13_4:b13 ≠ b4:=by have:=hB13.lt; omega
    have hB8:=hB8.kp hk3 (by simp);have hB13:=hB13.kp hk3 (by simp);have n4:w2.heap.size <= b4:=by have:=k2.size; omega
    have k3:=k2.tr hk3;refine ⟨.inl k3,?_⟩;refine nV τok 7 3 (mB 15 [11,12,14]) ?_;have hQ:Own rOr 150 w2.heap.size u3 (.slice (some ⟨b4,0,none⟩) 0 0) []:=Own.empty rOr hB4 n4;refine hQ.apF τok rfl rfl (by decide) aT' (hS2.tr k3) B.orders hO1 (by simp only [JU]; omega) (by simp only [JU,maxLen]; omega) fun v7 u4 hO7 hk4 hv7=>?_;rw [List.nil_append] at hO7;have k4:=k3.own hk4 hQ;have hk4:Kp [b4] u3 u4:=hk4;have g4_8:b4 ≠ b8:=d8_4.symm;have f7_8:∀ g,v7.ownBlock = some g -> g ≠ b8:=fun g hg=>by
     have:=hB8.lt;rcases hv7 with h | h <;> rw [h] at hg
     ·have hg:some b4 = some g:=hg
      have:=JB hg;omega
     ·have:=JB hg
      omega
    have g4_13:b4 ≠ b13:=d13_4.symm;have f7_13:∀ g,v7.ownBlock = some g -> g ≠ b13:=fun g hg=>by
     have:=hB13.lt;rcases hv7 with h | h <;> rw [h] at hg
     ·have hg:some b4 = some g:=hg
      have:=JB hg;omega
     ·have:=JB hg
      omega
    have hB8:=hB8.kp hk4 (by simp; exact g4_8.symm);have hB13:=hB13.kp hk4 (by simp; exact g4_13.symm);refine ⟨.inl k4,?_⟩;refine nV τok 11 2 (mB 15 [12,14]) ?_;have hQ:Own rPr 113 w2.heap.size u4 (.slice (some ⟨b8,0,none⟩) 0 0) []:=Own.empty rPr hB8 n8;refine hQ.apF τok rfl rfl (by decide) cA' (hS2.tr k4) B.prims hP1 (by simp only [JU]; omega) (by simp only [JU,maxLen]; omega) fun v11 u5 hO11 hk5 hv11=>?_;rw [List.nil_append] at hO11;have k5:=k4.own hk5 hQ;have hk5:Kp [b8] u4 u5:=hk5;have g8_13:b8 ≠ b13:=d8_13;have f11_13:∀ g,v11.ownBlock = some g -> g ≠ b13:=fun g hg=>by
     have:=hB13.lt;rcases hv11 with h | h <;> rw [h] at hg
     ·have hg:some b8 = some g:=hg
      have:=JB hg;omega
     ·have:=JB hg
      omega
    have hB13:=hB13.kp hk5 (by simp; exact g8_13.symm);have hO7:=Own.kpG hO7 aT' hk5 (fun g hg hx=>f7_8 g hg (by simpa using hx));refine ⟨.inl k5,?_⟩;refine nV τok 12 1 (mR 15 14) ?_;obtain ⟨a7,e7,q7⟩:=hO7.len;subst q7;obtain ⟨a11,e11,q11⟩:=hO11.len;subst q11;refine ⟨.inl k5,?_⟩;refine nV τok 14 0 (mR 15 15) ?_;refine stN (vs:=[iV B.vars,.slice a7 B.orders.length e7,.slice none 0 0,iV B.nat,.slice a11 B.prims.length e11]) hB13 rfl (by simp [Value.oneCell']) fun u hB13 hs hk=>?_;refine ⟨.inr (by kernel_rfl),?_⟩;refine dV ?_;exact ⟨(b13,.slice a7 B.orders.length e7,.slice a11 B.prims.length e11),rfl,⟨rfl,rfl,rfl,trivial⟩,fin b13 _ _ u k5 n13 hB13 hO7 hO11 f7_13 f11_13 hk⟩
  ·skip
   refine new fun b13 u1 hb13 hB13 hs1 hk1=>?_;have n13:w2.heap.size <= b13:=by have:=k0.size; omega
   have k1:=k0.tr hk1;refine ⟨.inl k1,?_⟩;refine db' τok 4 8 5 (mB 15 [7,8,11,12,14]) (mB 15 [4,7,11,12,14]) rfl rfl rfl rfl rfl (by kernel_rfl) ?_ ?_
   ·skip
    refine fill [] rfl ?_;refine new fun b4 u2 hb4 hB4 hs2 hk2=>?_;have d13_4:b13 ≠ b4:=by have:=hB13.lt; omega
    have hB13:=hB13.kp hk2 (by simp);have n4:w2.heap.size <= b4:=by have:=k1.size; omega
    have k2:=k1.tr hk2;refine ⟨.inl k2,?_⟩;refine db' τok 7 8 4 (mB 15 [8,11,12,14]) (mB 15 [7,11,12,14]) rfl rfl rfl rfl rfl (by kernel_rfl) ?_ ?_
    ·skip
     have hQ:Own rOr 150 w2.heap.size u2 (.slice (some ⟨b4,0,none⟩) 0 0) []:=Own.empty rOr hB4 n4;refine hQ.apF τok rfl rfl (by decide) aT' (hS2.tr k2) B.orders hO1 (by simp only [JU]; omega) (by simp only [JU,maxLen]; omega) fun v7 u3 hO7 hk3 hv7=>?_;rw [List.nil_append] at hO7;have k3:=k2.own hk3 hQ;have hk3:Kp [b4] u2 u3:=hk3;have g4_13:b4 ≠ b13:=d13_4.symm;have f7_13:∀ g,v7.ownBlock = some g -> g ≠ b13:=fun g hg=>by
      have:=hB13.lt;rcases hv7 with h | h <;> rw [h] at hg
      ·have hg:some b4 = some g:=hg
       have:=JB hg;omega
      ·have:=JB hg
       omega
     have hB13:=hB13.kp hk3 (by simp; exact g4_13.symm);refine ⟨.inl k3,?_⟩;refine nV τok 8 3 (mB 15 [11,12,14]) ?_;refine fill [] rfl ?_;refine new fun b8 u4 hb8 hB8 hs4 hk4=>?_;have d13_8:b13 ≠ b8:=by have:=hB13.lt; omega
     have f7_8:∀ g,Value.ownBlock v7 = some g -> g ≠ b8:=fun g hg=>by have:=(hO7.block g hg).2; omega
     have hB13:=hB13.kp hk4 (by simp);have hO7:=hO7.kp hk4;have n8:w2.heap.size <= b8:=by have:=k3.size; omega
     have k4:=k3.tr hk4;refine ⟨.inl k4,?_⟩;refine nV τok 11 2 (mB 15 [12,14]) ?_;have hQ:Own rPr 113 w2.heap.size u4 (.slice (some ⟨b8,0,none⟩) 0 0) []:=Own.empty rPr hB8 n8;refine hQ.apF τok rfl rfl (by decide) cA' (hS2.tr k4) B.prims hP1 (by simp only [JU]; omega) (by simp only [JU,maxLen]; omega) fun v11 u5 hO11 hk5 hv11=>?_;rw [List.nil_append] at hO11;have k5:=k4.own hk5 hQ;have hk5:Kp [b8] u4 u5:=hk5;have g8_13:b8 ≠ b13:=d13_8.symm;have f11_13:∀ g,v11.ownBlock = some g -> g ≠ b13:=fun g hg=>by
      have:=hB13.lt;rcases hv11 with h | h <;> rw [h] at hg
      ·have hg:some b8 = some g:=hg
       have:=JB hg;omega
      ·have:=JB hg
       omega
     have hB13:=hB13.kp hk5 (by simp; exact g8_13.symm);have hO7:=Own.kpG hO7 aT' hk5 (fun g hg hx=>f7_8 g hg (by simpa using hx));refine ⟨.inl k5,?_⟩;refine nV τok 12 1 (mR 15 14) ?_;obtain ⟨a7,e7,q7⟩:=hO7.len;subst q7;obtain ⟨a11,e11,q11⟩:=hO11.len;subst q11;refine ⟨.inl k5,?_⟩;refine nV τok 14 0 (mR 15 15) ?_;refine stN (vs:=[iV B.vars,.slice a7 B.orders.length e7,.slice none 0 0,iV B.nat,.slice a11 B.prims.length e11]) hB13 rfl (by simp [Value.oneCell']) fun u hB13 hs hk=>?_;refine ⟨.inr (by kernel_rfl),?_⟩;refine dV ?_;exact ⟨(b13,.slice a7 B.orders.length e7,.slice a11 B.prims.length e11),rfl,⟨rfl,rfl,rfl,trivial⟩,fin b13 _ _ u k5 n13 hB13 hO7 hO11 f7_13 f11_13 hk⟩
    ·skip
     refine fill [] rfl ?_;refine new fun b8 u3 hb8 hB8 hs3 hk3=>?_;have d13_8:b13 ≠ b8:=by have:=hB13.lt; omega
     have d4_8:b4 ≠ b8:=by have:=hB4.lt; omega
     have hB13:=hB13.kp hk3 (by simp);have hB4:=hB4.kp hk3 (by simp);have n8:w2.heap.size <= b8:=by have:=k2.size; omega
     have k3:=k2.tr hk3;refine ⟨.inl k3,?_⟩;refine nV τok 7 3 (mB 15 [11,12,14]) ?_;have hQ:Own rOr 150 w2.heap.size u3 (.slice (some ⟨b4,0,none⟩) 0 0) []:=Own.empty rOr hB4 n4;refine hQ.apF τok rfl rfl (by decide) aT' (hS2.tr k3) B.orders hO1 (by simp only [JU]; omega) (by simp only [JU,maxLen]; omega) fun v7 u4 hO7 hk4 hv7=>?_;rw [List.nil_append] at hO7;have k4:=k3.own hk4 hQ;have hk4:Kp [b4] u3 u4:=hk4;have g4_13:b4 ≠ b13:=d13_4.symm;have f7_13:∀ g,v7.ownBlock = some g -> g ≠ b13:=fun g hg=>by
      have:=hB13.lt;rcases hv7 with h | h <;> rw [h] at hg
      ·have hg:some b4 = some g:=hg
       have:=JB hg;omega
      ·have:=JB hg
       omega
     have g4_8:b4 ≠ b8:=d4_8;have f7_8:∀ g,v7.ownBlock = some g -> g ≠ b8:=fun g hg=>by
      have:=hB8.lt;rcases hv7 with h | h <;> rw [h] at hg
      ·have hg:some b4 = some g:=hg
       have:=JB hg;omega
      ·have:=JB hg
       omega
     have hB13:=hB13.kp hk4 (by simp; exact g4_13.symm);have hB8:=hB8.kp hk4 (by simp; exact g4_8.symm);refine ⟨.inl k4,?_⟩;refine nV τok 11 2 (mB 15 [12,14]) ?_;have hQ:Own rPr 113 w2.heap.size u4 (.slice (some ⟨b8,0,none⟩) 0 0) []:=Own.empty rPr hB8 n8;refine hQ.apF τok rfl rfl (by decide) cA' (hS2.tr k4) B.prims hP1 (by simp only [JU]; omega) (by simp only [JU,maxLen]; omega) fun v11 u5 hO11 hk5 hv11=>?_;rw [List.nil_append] at hO11;have k5:=k4.own hk5 hQ;have hk5:Kp [b8] u4 u5:=hk5;have g8_13:b8 ≠ b13:=d13_8.symm;have f11_13:∀ g,v11.ownBlock = some g -> g ≠ b13:=fun g hg=>by
      have:=hB13.lt;rcases hv11 with h | h <;> rw [h] at hg
      ·have hg:some b8 = some g:=hg
       have:=JB hg;omega
      ·have:=JB hg
       omega
     have hB13:=hB13.kp hk5 (by simp; exact g8_13.symm);have hO7:=Own.kpG hO7 aT' hk5 (fun g hg hx=>f7_8 g hg (by simpa using hx));refine ⟨.inl k5,?_⟩;refine nV τok 12 1 (mR 15 14) ?_;obtain ⟨a7,e7,q7⟩:=hO7.len;subst q7;obtain ⟨a11,e11,q11⟩:=hO11.len;subst q11;refine ⟨.inl k5,?_⟩;refine nV τok 14 0 (mR 15 15) ?_;refine stN (vs:=[iV B.vars,.slice a7 B.orders.length e7,.slice none 0 0,iV B.nat,.slice a11 B.prims.length e11]) hB13 rfl (by simp [Value.oneCell']) fun u hB13 hs hk=>?_;refine ⟨.inr (by kernel_rfl),?_⟩;refine dV ?_;exact ⟨(b13,.slice a7 B.orders.length e7,.slice a11 B.prims.length e11),rfl,⟨rfl,rfl,rfl,trivial⟩,fin b13 _ _ u k5 n13 hB13 hO7 hO11 f7_13 f11_13 hk⟩
   ·skip
    refine fill [] rfl ?_;refine new fun b8 u2 hb8 hB8 hs2 hk2=>?_;have d13_8:b13 ≠ b8:=by have:=hB13.lt; omega
    have hB13:=hB13.kp hk2 (by simp);have n8:w2.heap.size <= b8:=by have:=k1.size; omega
    have k2:=k1.tr hk2;refine ⟨.inl k2,?_⟩;refine nV τok 4 4 (mB 15 [7,11,12,14]) ?_;refine fill [] rfl ?_;refine new fun b4 u3 hb4 hB4 hs3 hk3=>?_;have d13_4:b13 ≠ b4:=by have:=hB13.lt; omega
    have d8_4:b8 ≠ b4:=by have:=hB8.lt; omega
    have hB13:=hB13.kp hk3 (by simp);have hB8:=hB8.kp hk3 (by simp);have n4:w2.heap.size <= b4:=by have:=k2.size; omega
    have k3:=k2.tr hk3;refine ⟨.inl k3,?_⟩;refine nV τok 7 3 (mB 15 [11,12,14]) ?_;have hQ:Own rOr 150 w2.heap.size u3 (.slice (some ⟨b4,0,none⟩) 0 0) []:=Own.empty rOr hB4 n4;refine hQ.apF τok rfl rfl (by decide) aT' (hS2.tr k3) B.orders hO1 (by simp only [JU]; omega) (by simp only [JU,maxLen]; omega) fun v7 u4 hO7 hk4 hv7=>?_;rw [List.nil_append] at hO7;have k4:=k3.own hk4 hQ;have hk4:Kp [b4] u3 u4:=hk4;have g4_13:b4 ≠ b13:=d13_4.symm;have f7_13:∀ g,v7.ownBlock = some g -> g ≠ b13:=fun g hg=>by
     have:=hB13.lt;rcases hv7 with h | h <;> rw [h] at hg
     ·have hg:some b4 = some g:=hg
      have:=JB hg;omega
     ·have:=JB hg
      omega
    have g4_8:b4 ≠ b8:=d8_4.symm;have f7_8:∀ g,v7.ownBlock = some g -> g ≠ b8:=fun g hg=>by
     have:=hB8.lt;rcases hv7 with h | h <;> rw [h] at hg
     ·have hg:some b4 = some g:=hg
      have:=JB hg;omega
     ·have:=JB hg
      omega
    have hB13:=hB13.kp hk4 (by simp; exact g4_13.symm);have hB8:=hB8.kp hk4 (by simp; exact g4_8.symm);refine ⟨.inl k4,?_⟩;refine nV τok 11 2 (mB 15 [12,14]) ?_;have hQ:Own rPr 113 w2.heap.size u4 (.slice (some ⟨b8,0,none⟩) 0 0) []:=Own.empty rPr hB8 n8;refine hQ.apF τok rfl rfl (by decide) cA' (hS2.tr k4) B.prims hP1 (by simp only [JU]; omega) (by simp only [JU,maxLen]; omega) fun v11 u5 hO11 hk5 hv11=>?_;rw [List.nil_append] at hO11;have k5:=k4.own hk5 hQ;have hk5:Kp [b8] u4 u5:=hk5;have g8_13:b8 ≠ b13:=d13_8.symm;have f11_13:∀ g,v11.ownBlock = some g -> g ≠ b13:=fun g hg=>by
     have:=hB13.lt;rcases hv11 with h | h <;> rw [h] at hg
     ·have hg:some b8 = some g:=hg
      have:=JB hg;omega
     ·have:=JB hg
      omega
    have hB13:=hB13.kp hk5 (by simp; exact g8_13.symm);have hO7:=Own.kpG hO7 aT' hk5 (fun g hg hx=>f7_8 g hg (by simpa using hx));refine ⟨.inl k5,?_⟩;refine nV τok 12 1 (mR 15 14) ?_;obtain ⟨a7,e7,q7⟩:=hO7.len;subst q7;obtain ⟨a11,e11,q11⟩:=hO11.len;subst q11;refine ⟨.inl k5,?_⟩;refine nV τok 14 0 (mR 15 15) ?_;refine stN (vs:=[iV B.vars,.slice a7 B.orders.length e7,.slice none 0 0,iV B.nat,.slice a11 B.prims.length e11]) hB13 rfl (by simp [Value.oneCell']) fun u hB13 hs hk=>?_;refine ⟨.inr (by kernel_rfl),?_⟩;refine dV ?_;exact ⟨(b13,.slice a7 B.orders.length e7,.slice a11 B.prims.length e11),rfl,⟨rfl,rfl,rfl,trivial⟩,fin b13 _ _ u k5 n13 hB13 hO7 hO11 f7_13 f11_13 hk⟩
 rintro ⟨b3,vo,vp⟩ wm ⟨k2m,n3,h3,hvo,hvp⟩;simp only at n3 h3 hvo hvp;have hl3:=h3.lt;have h1:=h1.kp k2m (by simp);have h2:=h2.kp k2m (by simp);have k0m:=k02.tr k2m;have ne13:b1 ≠ b3:=by have:=hk2.size; omega
 have ne23:b2 ≠ b3:=by omega
 refine aS' τok ?_;refine tU' (σ:=Nat × Value) (fun q=>[(1,pt b1),(2,pt b2),(3,pt b3),(4,iV (q.1:Int))])
  (fun q w'=>q.1 <= B.ents.length /\ Bk w'.heap b3 [iV B.vars,vo,q.2,iV B.nat,vp] 26 /\ Own rEn 37 wm.heap.size w' q.2 (B.ents.take q.1) /\ Kp [b3] wm w') (fun q=>B.ents.length - q.1) (0,.slice none 0 0) rfl
  ⟨rfl,rfl,rfl,rfl,trivial⟩ ⟨KV _,h3,Own.nil _ _ (KJ _),Kp.refl _ _⟩ ?_
 rintro ⟨i,ve⟩ w6 ⟨hi,h3,hOe,km6⟩;simp only at hi h3 hOe;have h16:=h1.kp km6 (by simpa using ne13);have h26:=h2.kp km6 (by simpa using ne23);have k06:Kp [] w w6:=k0m.trans km6 fun x hx hl=>by simp at hx; have:=k02.size; omega
 have hl16:=h16.lt;have hlm:=km6.size;refine aS' τok ?_;refine ld (h16.cl rfl).cell ?_;refine ac' (fun g1=>?_) (fun g1=>?_)
 ·have g1:(i:Int) < (B.ents.length:Int):=g1
  obtain ⟨x,hx,_⟩:=af' (l:=B.ents) (k:=i) (by omega);have hxm:=JQ hx;have hxc:=hC x hxm;obtain ⟨bE,oE,rfl,hcE⟩:=hE1.at (by omega:i < B.ents.length)
  obtain ⟨csE,⟨u1,u2,u3,u4,u5,u6,rfl,hki,hso,hpa,hin,hct,hty,hbo⟩,hcell⟩:=hcE i x hx;have hone:∀ v ∈ [iV x.kind,u1,u2,u3,u4,u5,u6],v.oneCell' = true:=fun v hv=>by
   simp at hv;rcases hv with rfl | rfl | rfl | rfl | rfl | rfl | rfl
   ·rfl
   ·exact hso.one
   ·exact hpa.one
   ·exact hin.one
   ·exact hct.one
   ·exact hty.one
   ·exact hbo.one
  obtain ⟨as_,cs_,rfl,hs1',_⟩:=hso;obtain ⟨ap_,cp_,rfl,hs2',_⟩:=hpa;obtain ⟨ai_,ci_,rfl,hs3',_⟩:=hin;obtain ⟨ac_,cc_,rfl,hs4',_⟩:=hct;obtain ⟨at_,ct_,rfl,hs5',_⟩:=hty;obtain ⟨ab_,cb_,rfl,hs6',_⟩:=hbo;refine oX' τok ?_;refine mS' ?_;refine aS' τok ?_;refine ld (h16.cl rfl).cell ?_;refine ix i rfl (by omega) ?_;refine ldN [iV x.kind,.slice as_ x.sort.length cs_,.slice ap_ x.params.length cp_,.slice ai_ x.indices.length ci_,.slice ac_ x.ctors.length cc_,.slice at_ x.type.length ct_,.slice ab_ x.body.length cb_] rfl (fun j v hj=>(hS.tr k06) _ _ _ (hcell j v hj)) ?_;refine new fun b5 w7 hb5 h5 hs7 hk7=>?_;refine stN (vs:=[iV x.kind,.slice as_ x.sort.length cs_,.slice ap_ x.params.length cp_,.slice ai_ x.indices.length ci_,.slice ac_ x.ctors.length cc_,.slice at_ x.type.length ct_,.slice ab_ x.body.length cb_]) h5 rfl hone fun w8 h5 hs8 hk8=>?_;have k68:=hk7.newSt hb5 hk8;have h5:Bk w8.heap b5 [iV x.kind,.slice as_ x.sort.length cs_,.slice ap_ x.params.length cp_,.slice ai_ x.indices.length ci_,.slice ac_ x.ctors.length cc_,.slice at_ x.type.length ct_,.slice ab_ x.body.length cb_] 37:=h5;have hS8:=hS.tr (k06.tr k68);have hl5:=h5.lt;refine eO' τok (σ:=CbS) (fun q=>[(1,pt b1),(2,pt b2),(3,pt b3),(4,iV (i:Int)),(5,pt b5),(6,pt q.b)])
   (fun q w'=>Kp [] w8 w' /\ w8.heap.size <= q.b /\ Bk w'.heap q.b [iV x.kind,q.c1,q.c2,q.c3,.slice none 0 0,q.c5,q.c6] 37 /\ SV rNd (Nx w8.heap.size q.b w') x.sort q.c1 /\ SV (rSk rNd) (Nx w8.heap.size q.b w') x.params q.c2 /\ SV (rSk rNd) (Nx w8.heap.size q.b w') x.indices q.c3 /\ SV rNd (Nx w8.heap.size q.b w') x.type q.c5 /\ SV rNd (Nx w8.heap.size q.b w') x.body q.c6) ?_ ?_
  ·have fin6:∀ (b6:Nat) (c1 c2 c3 c5 c6:Value) (u:World) {ud:World},Kp [] w8 ud -> w8.heap.size <= b6 -> Bk u.heap b6 [iV x.kind,c1,c2,c3,.slice none 0 0,c5,c6] 37 -> SV rNd (Nx w8.heap.size b6 ud) x.sort c1 -> SV (rSk rNd) (Nx w8.heap.size b6 ud) x.params c2 -> SV (rSk rNd) (Nx w8.heap.size b6 ud) x.indices c3 -> SV rNd (Nx w8.heap.size b6 ud) x.type c5 -> SV rNd (Nx w8.heap.size b6 ud) x.body c6 -> Kp [b6] ud u ->
     Kp [] w8 u /\ w8.heap.size <= b6 /\ Bk u.heap b6 [iV x.kind,c1,c2,c3,.slice none 0 0,c5,c6] 37 /\ SV rNd (Nx w8.heap.size b6 u) x.sort c1 /\ SV (rSk rNd) (Nx w8.heap.size b6 u) x.params c2 /\ SV (rSk rNd) (Nx w8.heap.size b6 u) x.indices c3 /\ SV rNd (Nx w8.heap.size b6 u) x.type c5 /\ SV rNd (Nx w8.heap.size b6 u) x.body c6:=fun b6 c1 c2 c3 c5 c6 u ud k n hB h1 h2 h3 h5 h6 hk =>
    ⟨k.trans hk fun y hy hl=>by simp at hy; omega,n,hB,h1.mono fun b o v h=>Nx.kg h hk,h2.mono fun b o v h=>Nx.kg h hk,h3.mono fun b o v h=>Nx.kg h hk,h5.mono fun b o v h=>Nx.kg h hk,h6.mono fun b o v h=>Nx.kg h hk⟩
   refine aq' τok (fun z=>Kp [] w8 z) ?_;refine rV τok [0,1,2,3,5,6,8,9,11,12,14,15] 8 (mB 20 [4,7,10,13,16,17,18,19]) (kQd w8) ?_;refine lk h5 ?_;refine lk h5 ?_;refine lk h5 ?_;refine lk h5 ?_;refine lk h5 ?_;refine lk h5 ?_;obtain ⟨u0,hu0⟩:∃ u0,u0 = (dr w8):=⟨_,rfl⟩
   have k0:Kp [] w8 u0:=by rw [hu0]; exact (Kp.refl [] w8).dr _
   rw [<- hu0];refine db' τok 4 18 7 (mB 20 [7,10,13,16,17,18,19]) (mB 20 [4,7,10,13,16,17,19]) rfl rfl rfl rfl rfl (by kernel_rfl) ?_ ?_
   ·skip
    refine ab' (aR' (hS8.tr k0) x.sort as_ cs_ hs1') ?_;rintro e u1 ⟨⟨c1,rfl,hc1⟩,hk1⟩;have k1:=k0.tr hk1;have hc1:SV rNd (New w8.heap.size u1) x.sort c1:=hc1.mono fun b o v h=>⟨by have:=k0.size; have:=h.1; omega,h.2⟩
    refine ⟨.inl k1,?_⟩;refine db' τok 7 18 6 (mB 20 [10,13,16,17,18,19]) (mB 20 [7,10,13,16,17,19]) rfl rfl rfl rfl rfl (by kernel_rfl) ?_ ?_
    ·skip
     refine ab' (be' (hS8.tr k1) x.params ap_ cp_ hs2') ?_;rintro e u2 ⟨⟨c2,rfl,hc2⟩,hk2⟩;have k2:=k1.tr hk2;have hc2:SV (rSk rNd) (New w8.heap.size u2) x.params c2:=hc2.mono fun b o v h=>⟨by have:=k1.size; have:=h.1; omega,h.2⟩
     have hc1:=hc1.mono fun b o v h=>(⟨h.1,h.2.kp hk2 (by simp)⟩:New w8.heap.size u2 b o v)
     refine ⟨.inl k2,?_⟩;refine db' τok 10 18 5 (mB 20 [13,16,17,18,19]) (mB 20 [10,13,16,17,19]) rfl rfl rfl rfl rfl (by kernel_rfl) ?_ ?_
     ·skip
      refine ab' (be' (hS8.tr k2) x.indices ai_ ci_ hs3') ?_;rintro e u3 ⟨⟨c3,rfl,hc3⟩,hk3⟩;have k3:=k2.tr hk3;have hc3:SV (rSk rNd) (New w8.heap.size u3) x.indices c3:=hc3.mono fun b o v h=>⟨by have:=k2.size; have:=h.1; omega,h.2⟩
      have hc1:=hc1.mono fun b o v h=>(⟨h.1,h.2.kp hk3 (by simp)⟩:New w8.heap.size u3 b o v)
      have hc2:=hc2.mono fun b o v h=>(⟨h.1,h.2.kp hk3 (by simp)⟩:New w8.heap.size u3 b o v)
      refine ⟨.inl k3,?_⟩;refine db' τok 13 18 4 (mR 20 16) (mB 20 [13,16,17,19]) rfl rfl rfl rfl rfl (by kernel_rfl) ?_ ?_
      ·skip
       refine ab' (aR' (hS8.tr k3) x.type at_ ct_ hs5') ?_;rintro e u4 ⟨⟨c5,rfl,hc5⟩,hk4⟩;have k4:=k3.tr hk4;have hc5:SV rNd (New w8.heap.size u4) x.type c5:=hc5.mono fun b o v h=>⟨by have:=k3.size; have:=h.1; omega,h.2⟩
       have hc1:=hc1.mono fun b o v h=>(⟨h.1,h.2.kp hk4 (by simp)⟩:New w8.heap.size u4 b o v)
       have hc2:=hc2.mono fun b o v h=>(⟨h.1,h.2.kp hk4 (by simp)⟩:New w8.heap.size u4 b o v)
       have hc3:=hc3.mono fun b o v h=>(⟨h.1,h.2.kp hk4 (by simp)⟩:New w8.heap.size u4 b o v)
       refine ⟨.inl k4,?_⟩;refine db' τok 16 18 3 (mR 20 17) (mB 20 [16,17,19]) rfl rfl rfl rfl rfl (by kernel_rfl) ?_ ?_
       ·skip
        refine ab' (aR' (hS8.tr k4) x.body ab_ cb_ hs6') ?_;rintro e u5 ⟨⟨c6,rfl,hc6⟩,hk5⟩;have k5:=k4.tr hk5;have hc6:SV rNd (New w8.heap.size u5) x.body c6:=hc6.mono fun b o v h=>⟨by have:=k4.size; have:=h.1; omega,h.2⟩
        have hc1:=hc1.mono fun b o v h=>(⟨h.1,h.2.kp hk5 (by simp)⟩:New w8.heap.size u5 b o v)
        have hc2:=hc2.mono fun b o v h=>(⟨h.1,h.2.kp hk5 (by simp)⟩:New w8.heap.size u5 b o v)
        have hc3:=hc3.mono fun b o v h=>(⟨h.1,h.2.kp hk5 (by simp)⟩:New w8.heap.size u5 b o v)
        have hc5:=hc5.mono fun b o v h=>(⟨h.1,h.2.kp hk5 (by simp)⟩:New w8.heap.size u5 b o v)
        refine ⟨.inl k5,?_⟩;refine db' τok 17 18 2 (mR 20 18) (mB 20 [17,19]) rfl rfl rfl rfl rfl (by kernel_rfl) ?_ ?_
        ·skip
         obtain ⟨a1,e1,q1,_,_⟩:=id hc1;subst q1;obtain ⟨a2,e2,q2,_,_⟩:=id hc2;subst q2;obtain ⟨a3,e3,q3,_,_⟩:=id hc3;subst q3;obtain ⟨a5,e5,q5,_,_⟩:=id hc5;subst q5;obtain ⟨a6,e6,q6,_,_⟩:=id hc6;subst q6;refine ⟨.inl k5,?_⟩;refine nV τok 18 1 (mR 20 19) ?_;refine new fun b6 u6 hb6 hB6 hs6 hk6=>?_;have hb6l:=hB6.lt;have n6:w8.heap.size <= b6:=by have:=k5.size; omega
         have hc1:=hc1.mono fun b o v h=>(⟨h.1,by have:=h.2.lt; omega,h.2.kp hk6 (by simp)⟩:Nx w8.heap.size b6 u6 b o v)
         have hc2:=hc2.mono fun b o v h=>(⟨h.1,by have:=h.2.lt; omega,h.2.kp hk6 (by simp)⟩:Nx w8.heap.size b6 u6 b o v)
         have hc3:=hc3.mono fun b o v h=>(⟨h.1,by have:=h.2.lt; omega,h.2.kp hk6 (by simp)⟩:Nx w8.heap.size b6 u6 b o v)
         have hc5:=hc5.mono fun b o v h=>(⟨h.1,by have:=h.2.lt; omega,h.2.kp hk6 (by simp)⟩:Nx w8.heap.size b6 u6 b o v)
         have hc6:=hc6.mono fun b o v h=>(⟨h.1,by have:=h.2.lt; omega,h.2.kp hk6 (by simp)⟩:Nx w8.heap.size b6 u6 b o v)
         have k6:=k5.tr hk6;refine ⟨.inl k6,?_⟩;refine nV τok 19 0 (mR 20 20) ?_;refine stN (vs:=[iV x.kind,.slice a1 x.sort.length e1,.slice a2 x.params.length e2,.slice a3 x.indices.length e3,.slice none 0 0,.slice a5 x.type.length e5,.slice a6 x.body.length e6]) hB6 rfl (by simp [Value.oneCell']) fun u hB6 hs hk=>?_;refine ⟨.inr (by kernel_rfl),?_⟩;refine dV ?_;exact ⟨⟨b6,.slice a1 x.sort.length e1,.slice a2 x.params.length e2,.slice a3 x.indices.length e3,.slice a5 x.type.length e5,.slice a6 x.body.length e6⟩,rfl,⟨rfl,rfl,rfl,rfl,rfl,rfl,trivial⟩,fin6 b6 _ _ _ _ _ u k6 n6 hB6 hc1 hc2 hc3 hc5 hc6 hk⟩
        ·skip
         refine new fun b6 u6 hb6 hB6 hs6 hk6=>?_;have hb6l:=hB6.lt;have n6:w8.heap.size <= b6:=by have:=k5.size; omega
         have hc1:=hc1.mono fun b o v h=>(⟨h.1,by have:=h.2.lt; omega,h.2.kp hk6 (by simp)⟩:Nx w8.heap.size b6 u6 b o v)
         have hc2:=hc2.mono fun b o v h=>(⟨h.1,by have:=h.2.lt; omega,h.2.kp hk6 (by simp)⟩:Nx w8.heap.size b6 u6 b o v)
         have hc3:=hc3.mono fun b o v h=>(⟨h.1,by have:=h.2.lt; omega,h.2.kp hk6 (by simp)⟩:Nx w8.heap.size b6 u6 b o v)
         have hc5:=hc5.mono fun b o v h=>(⟨h.1,by have:=h.2.lt; omega,h.2.kp hk6 (by simp)⟩:Nx w8.heap.size b6 u6 b o v)
         have hc6:=hc6.mono fun b o v h=>(⟨h.1,by have:=h.2.lt; omega,h.2.kp hk6 (by simp)⟩:Nx w8.heap.size b6 u6 b o v)
         have k6:=k5.tr hk6;refine ⟨.inl k6,?_⟩;refine nV τok 17 1 (mR 20 19) ?_;obtain ⟨a1,e1,q1,_,_⟩:=id hc1;subst q1;obtain ⟨a2,e2,q2,_,_⟩:=id hc2;subst q2;obtain ⟨a3,e3,q3,_,_⟩:=id hc3;subst q3;obtain ⟨a5,e5,q5,_,_⟩:=id hc5;subst q5;obtain ⟨a6,e6,q6,_,_⟩:=id hc6;subst q6;refine ⟨.inl k6,?_⟩;refine nV τok 19 0 (mR 20 20) ?_;refine stN (vs:=[iV x.kind,.slice a1 x.sort.length e1,.slice a2 x.params.length e2,.slice a3 x.indices.length e3,.slice none 0 0,.slice a5 x.type.length e5,.slice a6 x.body.length e6]) hB6 rfl (by simp [Value.oneCell']) fun u hB6 hs hk=>?_;refine ⟨.inr (by kernel_rfl),?_⟩;refine dV ?_;exact ⟨⟨b6,.slice a1 x.sort.length e1,.slice a2 x.params.length e2,.slice a3 x.indices.length e3,.slice a5 x.type.length e5,.slice a6 x.body.length e6⟩,rfl,⟨rfl,rfl,rfl,rfl,rfl,rfl,trivial⟩,fin6 b6 _ _ _ _ _ u k6 n6 hB6 hc1 hc2 hc3 hc5 hc6 hk⟩
       ·skip
        refine new fun b6 u5 hb6 hB6 hs5 hk5=>?_;have hb6l:=hB6.lt;have n6:w8.heap.size <= b6:=by have:=k4.size; omega
        have hc1:=hc1.mono fun b o v h=>(⟨h.1,by have:=h.2.lt; omega,h.2.kp hk5 (by simp)⟩:Nx w8.heap.size b6 u5 b o v)
        have hc2:=hc2.mono fun b o v h=>(⟨h.1,by have:=h.2.lt; omega,h.2.kp hk5 (by simp)⟩:Nx w8.heap.size b6 u5 b o v)
        have hc3:=hc3.mono fun b o v h=>(⟨h.1,by have:=h.2.lt; omega,h.2.kp hk5 (by simp)⟩:Nx w8.heap.size b6 u5 b o v)
        have hc5:=hc5.mono fun b o v h=>(⟨h.1,by have:=h.2.lt; omega,h.2.kp hk5 (by simp)⟩:Nx w8.heap.size b6 u5 b o v)
        have k5:=k4.tr hk5;refine ⟨.inl k5,?_⟩;refine nV τok 16 2 (mB 20 [17,19]) ?_;refine ab' (aR' (hS8.tr k5) x.body ab_ cb_ hs6') ?_;rintro e u6 ⟨⟨c6,rfl,hc6⟩,hk6⟩;have k6:=k5.tr hk6;have hc6:SV rNd (Nx w8.heap.size b6 u6) x.body c6:=hc6.mono fun b o v h=>⟨by have:=k5.size; have:=h.1; omega,by have:=hb6l; have:=h.1; omega,h.2⟩
        have hB6:=hB6.kp hk6 (by simp);have hb6l:=hB6.lt;have hc1:=hc1.mono fun b o v h=>Nx.tr h hk6;have hc2:=hc2.mono fun b o v h=>Nx.tr h hk6;have hc3:=hc3.mono fun b o v h=>Nx.tr h hk6;have hc5:=hc5.mono fun b o v h=>Nx.tr h hk6;refine ⟨.inl k6,?_⟩;refine nV τok 17 1 (mR 20 19) ?_;obtain ⟨a1,e1,q1,_,_⟩:=id hc1;subst q1;obtain ⟨a2,e2,q2,_,_⟩:=id hc2;subst q2;obtain ⟨a3,e3,q3,_,_⟩:=id hc3;subst q3;obtain ⟨a5,e5,q5,_,_⟩:=id hc5;subst q5;obtain ⟨a6,e6,q6,_,_⟩:=id hc6;subst q6;refine ⟨.inl k6,?_⟩;refine nV τok 19 0 (mR 20 20) ?_;refine stN (vs:=[iV x.kind,.slice a1 x.sort.length e1,.slice a2 x.params.length e2,.slice a3 x.indices.length e3,.slice none 0 0,.slice a5 x.type.length e5,.slice a6 x.body.length e6]) hB6 rfl (by simp [Value.oneCell']) fun u hB6 hs hk=>?_;refine ⟨.inr (by kernel_rfl),?_⟩;refine dV ?_;exact ⟨⟨b6,.slice a1 x.sort.length e1,.slice a2 x.params.length e2,.slice a3 x.indices.length e3,.slice a5 x.type.length e5,.slice a6 x.body.length e6⟩,rfl,⟨rfl,rfl,rfl,rfl,rfl,rfl,trivial⟩,fin6 b6 _ _ _ _ _ u k6 n6 hB6 hc1 hc2 hc3 hc5 hc6 hk⟩
      ·skip
       refine new fun b6 u4 hb6 hB6 hs4 hk4=>?_;have hb6l:=hB6.lt;have n6:w8.heap.size <= b6:=by have:=k3.size; omega
       have hc1:=hc1.mono fun b o v h=>(⟨h.1,by have:=h.2.lt; omega,h.2.kp hk4 (by simp)⟩:Nx w8.heap.size b6 u4 b o v)
       have hc2:=hc2.mono fun b o v h=>(⟨h.1,by have:=h.2.lt; omega,h.2.kp hk4 (by simp)⟩:Nx w8.heap.size b6 u4 b o v)
       have hc3:=hc3.mono fun b o v h=>(⟨h.1,by have:=h.2.lt; omega,h.2.kp hk4 (by simp)⟩:Nx w8.heap.size b6 u4 b o v)
       have k4:=k3.tr hk4;refine ⟨.inl k4,?_⟩;refine nV τok 13 3 (mB 20 [16,17,19]) ?_;refine ab' (aR' (hS8.tr k4) x.type at_ ct_ hs5') ?_;rintro e u5 ⟨⟨c5,rfl,hc5⟩,hk5⟩;have k5:=k4.tr hk5;have hc5:SV rNd (Nx w8.heap.size b6 u5) x.type c5:=hc5.mono fun b o v h=>⟨by have:=k4.size; have:=h.1; omega,by have:=hb6l; have:=h.1; omega,h.2⟩
       have hB6:=hB6.kp hk5 (by simp);have hb6l:=hB6.lt;have hc1:=hc1.mono fun b o v h=>Nx.tr h hk5;have hc2:=hc2.mono fun b o v h=>Nx.tr h hk5;have hc3:=hc3.mono fun b o v h=>Nx.tr h hk5;refine ⟨.inl k5,?_⟩;refine nV τok 16 2 (mB 20 [17,19]) ?_;refine ab' (aR' (hS8.tr k5) x.body ab_ cb_ hs6') ?_;rintro e u6 ⟨⟨c6,rfl,hc6⟩,hk6⟩;have k6:=k5.tr hk6;have hc6:SV rNd (Nx w8.heap.size b6 u6) x.body c6:=hc6.mono fun b o v h=>⟨by have:=k5.size; have:=h.1; omega,by have:=hb6l; have:=h.1; omega,h.2⟩
       have hB6:=hB6.kp hk6 (by simp);have hb6l:=hB6.lt;have hc1:=hc1.mono fun b o v h=>Nx.tr h hk6;have hc2:=hc2.mono fun b o v h=>Nx.tr h hk6;have hc3:=hc3.mono fun b o v h=>Nx.tr h hk6;have hc5:=hc5.mono fun b o v h=>Nx.tr h hk6;refine ⟨.inl k6,?_⟩;refine nV τok 17 1 (mR 20 19) ?_;obtain ⟨a1,e1,q1,_,_⟩:=id hc1;subst q1;obtain ⟨a2,e2,q2,_,_⟩:=id hc2;subst q2;obtain ⟨a3,e3,q3,_,_⟩:=id hc3;subst q3;obtain ⟨a5,e5,q5,_,_⟩:=id hc5;subst q5;obtain ⟨a6,e6,q6,_,_⟩:=id hc6;subst q6;refine ⟨.inl k6,?_⟩;refine nV τok 19 0 (mR 20 20) ?_;refine stN (vs:=[iV x.kind,.slice a1 x.sort.length e1,.slice a2 x.params.length e2,.slice a3 x.indices.length e3,.slice none 0 0,.slice a5 x.type.length e5,.slice a6 x.body.length e6]) hB6 rfl (by simp [Value.oneCell']) fun u hB6 hs hk=>?_;refine ⟨.inr (by kernel_rfl),?_⟩;refine dV ?_;exact ⟨⟨b6,.slice a1 x.sort.length e1,.slice a2 x.params.length e2,.slice a3 x.indices.length e3,.slice a5 x.type.length e5,.slice a6 x.body.length e6⟩,rfl,⟨rfl,rfl,rfl,rfl,rfl,rfl,trivial⟩,fin6 b6 _ _ _ _ _ u k6 n6 hB6 hc1 hc2 hc3 hc5 hc6 hk⟩
     ·skip
      refine new fun b6 u3 hb6 hB6 hs3 hk3=>?_;have hb6l:=hB6.lt;have n6:w8.heap.size <= b6:=by have:=k2.size; omega
      have hc1:=hc1.mono fun b o v h=>(⟨h.1,by have:=h.2.lt; omega,h.2.kp hk3 (by simp)⟩:Nx w8.heap.size b6 u3 b o v)
      have hc2:=hc2.mono fun b o v h=>(⟨h.1,by have:=h.2.lt; omega,h.2.kp hk3 (by simp)⟩:Nx w8.heap.size b6 u3 b o v)
      have k3:=k2.tr hk3;refine ⟨.inl k3,?_⟩;refine nV τok 10 4 (mB 20 [13,16,17,19]) ?_;refine ab' (be' (hS8.tr k3) x.indices ai_ ci_ hs3') ?_;rintro e u4 ⟨⟨c3,rfl,hc3⟩,hk4⟩;have k4:=k3.tr hk4;have hc3:SV (rSk rNd) (Nx w8.heap.size b6 u4) x.indices c3:=hc3.mono fun b o v h=>⟨by have:=k3.size; have:=h.1; omega,by have:=hb6l; have:=h.1; omega,h.2⟩
      have hB6:=hB6.kp hk4 (by simp);have hb6l:=hB6.lt;have hc1:=hc1.mono fun b o v h=>Nx.tr h hk4;have hc2:=hc2.mono fun b o v h=>Nx.tr h hk4;refine ⟨.inl k4,?_⟩;refine nV τok 13 3 (mB 20 [16,17,19]) ?_;refine ab' (aR' (hS8.tr k4) x.type at_ ct_ hs5') ?_;rintro e u5 ⟨⟨c5,rfl,hc5⟩,hk5⟩;have k5:=k4.tr hk5;have hc5:SV rNd (Nx w8.heap.size b6 u5) x.type c5:=hc5.mono fun b o v h=>⟨by have:=k4.size; have:=h.1; omega,by have:=hb6l; have:=h.1; omega,h.2⟩
      have hB6:=hB6.kp hk5 (by simp);have hb6l:=hB6.lt;have hc1:=hc1.mono fun b o v h=>Nx.tr h hk5;have hc2:=hc2.mono fun b o v h=>Nx.tr h hk5;have hc3:=hc3.mono fun b o v h=>Nx.tr h hk5;refine ⟨.inl k5,?_⟩;refine nV τok 16 2 (mB 20 [17,19]) ?_;refine ab' (aR' (hS8.tr k5) x.body ab_ cb_ hs6') ?_;rintro e u6 ⟨⟨c6,rfl,hc6⟩,hk6⟩;have k6:=k5.tr hk6;have hc6:SV rNd (Nx w8.heap.size b6 u6) x.body c6:=hc6.mono fun b o v h=>⟨by have:=k5.size; have:=h.1; omega,by have:=hb6l; have:=h.1; omega,h.2⟩
      have hB6:=hB6.kp hk6 (by simp);have hb6l:=hB6.lt;have hc1:=hc1.mono fun b o v h=>Nx.tr h hk6;have hc2:=hc2.mono fun b o v h=>Nx.tr h hk6;have hc3:=hc3.mono fun b o v h=>Nx.tr h hk6;have hc5:=hc5.mono fun b o v h=>Nx.tr h hk6;refine ⟨.inl k6,?_⟩;refine nV τok 17 1 (mR 20 19) ?_;obtain ⟨a1,e1,q1,_,_⟩:=id hc1;subst q1;obtain ⟨a2,e2,q2,_,_⟩:=id hc2;subst q2;obtain ⟨a3,e3,q3,_,_⟩:=id hc3;subst q3;obtain ⟨a5,e5,q5,_,_⟩:=id hc5;subst q5;obtain ⟨a6,e6,q6,_,_⟩:=id hc6;subst q6;refine ⟨.inl k6,?_⟩;refine nV τok 19 0 (mR 20 20) ?_;refine stN (vs:=[iV x.kind,.slice a1 x.sort.length e1,.slice a2 x.params.length e2,.slice a3 x.indices.length e3,.slice none 0 0,.slice a5 x.type.length e5,.slice a6 x.body.length e6]) hB6 rfl (by simp [Value.oneCell']) fun u hB6 hs hk=>?_;refine ⟨.inr (by kernel_rfl),?_⟩;refine dV ?_;exact ⟨⟨b6,.slice a1 x.sort.length e1,.slice a2 x.params.length e2,.slice a3 x.indices.length e3,.slice a5 x.type.length e5,.slice a6 x.body.length e6⟩,rfl,⟨rfl,rfl,rfl,rfl,rfl,rfl,trivial⟩,fin6 b6 _ _ _ _ _ u k6 n6 hB6 hc1 hc2 hc3 hc5 hc6 hk⟩
    ·skip
     refine new fun b6 u2 hb6 hB6 hs2 hk2=>?_;have hb6l:=hB6.lt;have n6:w8.heap.size <= b6:=by have:=k1.size; omega
     have hc1:=hc1.mono fun b o v h=>(⟨h.1,by have:=h.2.lt; omega,h.2.kp hk2 (by simp)⟩:Nx w8.heap.size b6 u2 b o v)
     have k2:=k1.tr hk2;refine ⟨.inl k2,?_⟩;refine nV τok 7 5 (mB 20 [10,13,16,17,19]) ?_;refine ab' (be' (hS8.tr k2) x.params ap_ cp_ hs2') ?_;rintro e u3 ⟨⟨c2,rfl,hc2⟩,hk3⟩;have k3:=k2.tr hk3;have hc2:SV (rSk rNd) (Nx w8.heap.size b6 u3) x.params c2:=hc2.mono fun b o v h=>⟨by have:=k2.size; have:=h.1; omega,by have:=hb6l; have:=h.1; omega,h.2⟩
     have hB6:=hB6.kp hk3 (by simp);have hb6l:=hB6.lt;have hc1:=hc1.mono fun b o v h=>Nx.tr h hk3;refine ⟨.inl k3,?_⟩;refine nV τok 10 4 (mB 20 [13,16,17,19]) ?_;refine ab' (be' (hS8.tr k3) x.indices ai_ ci_ hs3') ?_;rintro e u4 ⟨⟨c3,rfl,hc3⟩,hk4⟩;have k4:=k3.tr hk4;have hc3:SV (rSk rNd) (Nx w8.heap.size b6 u4) x.indices c3:=hc3.mono fun b o v h=>⟨by have:=k3.size; have:=h.1; omega,by have:=hb6l; have:=h.1; omega,h.2⟩
     have hB6:=hB6.kp hk4 (by simp);have hb6l:=hB6.lt;have hc1:=hc1.mono fun b o v h=>Nx.tr h hk4;have hc2:=hc2.mono fun b o v h=>Nx.tr h hk4;refine ⟨.inl k4,?_⟩;refine nV τok 13 3 (mB 20 [16,17,19]) ?_;refine ab' (aR' (hS8.tr k4) x.type at_ ct_ hs5') ?_;rintro e u5 ⟨⟨c5,rfl,hc5⟩,hk5⟩;have k5:=k4.tr hk5;have hc5:SV rNd (Nx w8.heap.size b6 u5) x.type c5:=hc5.mono fun b o v h=>⟨by have:=k4.size; have:=h.1; omega,by have:=hb6l; have:=h.1; omega,h.2⟩
     have hB6:=hB6.kp hk5 (by simp);have hb6l:=hB6.lt;have hc1:=hc1.mono fun b o v h=>Nx.tr h hk5;have hc2:=hc2.mono fun b o v h=>Nx.tr h hk5;have hc3:=hc3.mono fun b o v h=>Nx.tr h hk5;refine ⟨.inl k5,?_⟩;refine nV τok 16 2 (mB 20 [17,19]) ?_;refine ab' (aR' (hS8.tr k5) x.body ab_ cb_ hs6') ?_;rintro e u6 ⟨⟨c6,rfl,hc6⟩,hk6⟩;have k6:=k5.tr hk6;have hc6:SV rNd (Nx w8.heap.size b6 u6) x.body c6:=hc6.mono fun b o v h=>⟨by have:=k5.size; have:=h.1; omega,by have:=hb6l; have:=h.1; omega,h.2⟩
     have hB6:=hB6.kp hk6 (by simp);have hb6l:=hB6.lt;have hc1:=hc1.mono fun b o v h=>Nx.tr h hk6;have hc2:=hc2.mono fun b o v h=>Nx.tr h hk6;have hc3:=hc3.mono fun b o v h=>Nx.tr h hk6;have hc5:=hc5.mono fun b o v h=>Nx.tr h hk6;refine ⟨.inl k6,?_⟩;refine nV τok 17 1 (mR 20 19) ?_;obtain ⟨a1,e1,q1,_,_⟩:=id hc1;subst q1;obtain ⟨a2,e2,q2,_,_⟩:=id hc2;subst q2;obtain ⟨a3,e3,q3,_,_⟩:=id hc3;subst q3;obtain ⟨a5,e5,q5,_,_⟩:=id hc5;subst q5;obtain ⟨a6,e6,q6,_,_⟩:=id hc6;subst q6;refine ⟨.inl k6,?_⟩;refine nV τok 19 0 (mR 20 20) ?_;refine stN (vs:=[iV x.kind,.slice a1 x.sort.length e1,.slice a2 x.params.length e2,.slice a3 x.indices.length e3,.slice none 0 0,.slice a5 x.type.length e5,.slice a6 x.body.length e6]) hB6 rfl (by simp [Value.oneCell']) fun u hB6 hs hk=>?_;refine ⟨.inr (by kernel_rfl),?_⟩;refine dV ?_;exact ⟨⟨b6,.slice a1 x.sort.length e1,.slice a2 x.params.length e2,.slice a3 x.indices.length e3,.slice a5 x.type.length e5,.slice a6 x.body.length e6⟩,rfl,⟨rfl,rfl,rfl,rfl,rfl,rfl,trivial⟩,fin6 b6 _ _ _ _ _ u k6 n6 hB6 hc1 hc2 hc3 hc5 hc6 hk⟩
   ·skip
    refine new fun b6 u1 hb6 hB6 hs1 hk1=>?_;have hb6l:=hB6.lt;have n6:w8.heap.size <= b6:=by have:=k0.size; omega
    have k1:=k0.tr hk1;refine ⟨.inl k1,?_⟩;refine nV τok 4 6 (mB 20 [7,10,13,16,17,19]) ?_;refine ab' (aR' (hS8.tr k1) x.sort as_ cs_ hs1') ?_;rintro e u2 ⟨⟨c1,rfl,hc1⟩,hk2⟩;have k2:=k1.tr hk2;have hc1:SV rNd (Nx w8.heap.size b6 u2) x.sort c1:=hc1.mono fun b o v h=>⟨by have:=k1.size; have:=h.1; omega,by have:=hb6l; have:=h.1; omega,h.2⟩
    have hB6:=hB6.kp hk2 (by simp);have hb6l:=hB6.lt;refine ⟨.inl k2,?_⟩;refine nV τok 7 5 (mB 20 [10,13,16,17,19]) ?_;refine ab' (be' (hS8.tr k2) x.params ap_ cp_ hs2') ?_;rintro e u3 ⟨⟨c2,rfl,hc2⟩,hk3⟩;have k3:=k2.tr hk3;have hc2:SV (rSk rNd) (Nx w8.heap.size b6 u3) x.params c2:=hc2.mono fun b o v h=>⟨by have:=k2.size; have:=h.1; omega,by have:=hb6l; have:=h.1; omega,h.2⟩
    have hB6:=hB6.kp hk3 (by simp);have hb6l:=hB6.lt;have hc1:=hc1.mono fun b o v h=>Nx.tr h hk3;refine ⟨.inl k3,?_⟩;refine nV τok 10 4 (mB 20 [13,16,17,19]) ?_;refine ab' (be' (hS8.tr k3) x.indices ai_ ci_ hs3') ?_;rintro e u4 ⟨⟨c3,rfl,hc3⟩,hk4⟩;have k4:=k3.tr hk4;have hc3:SV (rSk rNd) (Nx w8.heap.size b6 u4) x.indices c3:=hc3.mono fun b o v h=>⟨by have:=k3.size; have:=h.1; omega,by have:=hb6l; have:=h.1; omega,h.2⟩
    have hB6:=hB6.kp hk4 (by simp);have hb6l:=hB6.lt;have hc1:=hc1.mono fun b o v h=>Nx.tr h hk4;have hc2:=hc2.mono fun b o v h=>Nx.tr h hk4;refine ⟨.inl k4,?_⟩;refine nV τok 13 3 (mB 20 [16,17,19]) ?_;refine ab' (aR' (hS8.tr k4) x.type at_ ct_ hs5') ?_;rintro e u5 ⟨⟨c5,rfl,hc5⟩,hk5⟩;have k5:=k4.tr hk5;have hc5:SV rNd (Nx w8.heap.size b6 u5) x.type c5:=hc5.mono fun b o v h=>⟨by have:=k4.size; have:=h.1; omega,by have:=hb6l; have:=h.1; omega,h.2⟩
    have hB6:=hB6.kp hk5 (by simp);have hb6l:=hB6.lt;have hc1:=hc1.mono fun b o v h=>Nx.tr h hk5;have hc2:=hc2.mono fun b o v h=>Nx.tr h hk5;have hc3:=hc3.mono fun b o v h=>Nx.tr h hk5;refine ⟨.inl k5,?_⟩;refine nV τok 16 2 (mB 20 [17,19]) ?_;refine ab' (aR' (hS8.tr k5) x.body ab_ cb_ hs6') ?_;rintro e u6 ⟨⟨c6,rfl,hc6⟩,hk6⟩;have k6:=k5.tr hk6;have hc6:SV rNd (Nx w8.heap.size b6 u6) x.body c6:=hc6.mono fun b o v h=>⟨by have:=k5.size; have:=h.1; omega,by have:=hb6l; have:=h.1; omega,h.2⟩
    have hB6:=hB6.kp hk6 (by simp);have hb6l:=hB6.lt;have hc1:=hc1.mono fun b o v h=>Nx.tr h hk6;have hc2:=hc2.mono fun b o v h=>Nx.tr h hk6;have hc3:=hc3.mono fun b o v h=>Nx.tr h hk6;have hc5:=hc5.mono fun b o v h=>Nx.tr h hk6;refine ⟨.inl k6,?_⟩;refine nV τok 17 1 (mR 20 19) ?_;obtain ⟨a1,e1,q1,_,_⟩:=id hc1;subst q1;obtain ⟨a2,e2,q2,_,_⟩:=id hc2;subst q2;obtain ⟨a3,e3,q3,_,_⟩:=id hc3;subst q3;obtain ⟨a5,e5,q5,_,_⟩:=id hc5;subst q5;obtain ⟨a6,e6,q6,_,_⟩:=id hc6;subst q6;refine ⟨.inl k6,?_⟩;refine nV τok 19 0 (mR 20 20) ?_;refine stN (vs:=[iV x.kind,.slice a1 x.sort.length e1,.slice a2 x.params.length e2,.slice a3 x.indices.length e3,.slice none 0 0,.slice a5 x.type.length e5,.slice a6 x.body.length e6]) hB6 rfl (by simp [Value.oneCell']) fun u hB6 hs hk=>?_;refine ⟨.inr (by kernel_rfl),?_⟩;refine dV ?_;exact ⟨⟨b6,.slice a1 x.sort.length e1,.slice a2 x.params.length e2,.slice a3 x.indices.length e3,.slice a5 x.type.length e5,.slice a6 x.body.length e6⟩,rfl,⟨rfl,rfl,rfl,rfl,rfl,rfl,trivial⟩,fin6 b6 _ _ _ _ _ u k6 n6 hB6 hc1 hc2 hc3 hc5 hc6 hk⟩
  rintro ⟨b6,c1,c2,c3,c5,c6⟩ w9 ⟨k89,n6,h6,hc1,hc2,hc3,hc5,hc6⟩;simp only at n6 h6 hc1 hc2 hc3 hc5 hc6;have hl6:=h6.lt;have h59:=h5.kp k89 (by simp);have k69:=k68.tr k89;have ne56:b5 ≠ b6:=by omega
  refine aS' τok ?_;refine lp τok (σ:=Nat × Value) (fun q=>[(1,pt b1),(2,pt b2),(3,pt b3),(4,iV (i:Int)),(5,pt b5),(6,pt b6),(7,iV (q.1:Int))])
   (fun q w'=>q.1 <= x.ctors.length /\ Bk w'.heap b6 [iV x.kind,c1,c2,c3,q.2,c5,c6] 37 /\ Own rCt 44 w9.heap.size w' q.2 (x.ctors.take q.1) /\ Kp [b6] w9 w') (fun q=>x.ctors.length - q.1) (0,.slice none 0 0) rfl
   ⟨rfl,rfl,rfl,rfl,rfl,rfl,rfl,trivial⟩ ⟨KV _,h6,Own.nil _ _ (KJ _),Kp.refl _ _⟩ ?_
  rintro ⟨j,vc⟩ wa ⟨hj,h6,hOc,k9a⟩;simp only at hj h6 hOc;have h5a:=h59.kp k9a (by simpa using ne56);have k6a:Kp [] w6 wa:=k69.trans k9a fun y hy hl=>by simp at hy; have:=k68.size; omega
  have k0a:=k06.tr k6a;have hSa:=hS.tr k0a;have hlc:(x.ctors.take j).length = j:=by rw [List.length_take]; omega
  have hblk:=hOc.block;have nbv:∀ y,y < w9.heap.size -> y ∉ vc.ownBlock.toList:=fun y hy hm=>by have:=(hblk y (by simpa using hm)).1; omega
  have h5a0:=h5a;refine ld (h5a.cl rfl).cell ?_;refine ac' (fun g2=>?_) (fun g2=>?_)
  ·have g2:(j:Int) < (x.ctors.length:Int):=g2
   obtain ⟨ct,hct,_⟩:=af' (l:=x.ctors) (k:=j) (by omega);obtain ⟨bC,oC,rfl,hcC⟩:=hs4'.at (by omega:j < x.ctors.length)
   obtain ⟨csC,⟨q1,q2,rfl,hca,hco⟩,hcl⟩:=hcC j ct hct;obtain ⟨aA,cA,rfl,hsA,_⟩:=hca;obtain ⟨aU,cU,rfl,hsU,_⟩:=hco;have hCl:∀ b o v,C b o v -> b < w.heap.size:=fun b o v h=>(hS _ _ _ h).lt;have nC:∀ b o v,C b o v -> b ∉ vc.ownBlock.toList:=fun b o v h=>nbv b (by have:=hCl _ _ _ h; have:=k06.size; have:=k69.size; omega);refine aq' τok (fun z=>Kp vc.ownBlock.toList wa z) ?_;refine rV τok [0,1,2,3,4,5,6,7,9,10,11,12,13,14] 7 (mB 21 [8,15,16,17,18,19,20]) ((Kp.refl _ wa).dr _) ?_;refine ldQ (fun z hz=>(h6.cl rfl).kp hz (nbv _ hl6)) ?_;refine ldQ (fun z hz=>(h5a.cl rfl).kp hz (nbv _ (by have:=k89.size; omega))) ?_;refine ix j rfl (by omega) ?_;refine ldQ (fun z hz=>(hSa _ _ _ (hcl 0 _ rfl)).kp hz (nC _ _ _ (hcl 0 _ rfl))) ?_;refine ldQ (fun z hz=>(h5a.cl rfl).kp hz (nbv _ (by have:=k89.size; omega))) ?_;refine ix j rfl (by omega) ?_;refine ldQ (fun z hz=>(hSa _ _ _ (hcl 1 _ rfl)).kp hz (nC _ _ _ (hcl 1 _ rfl))) ?_;obtain ⟨wd,hwd⟩:∃ wd,wd = (dr wa):=⟨_,rfl⟩
   have kad:Kp [] wa wd:=by rw [hwd]; exact (Kp.refl [] wa).dr _
   rw [<- hwd];refine nV τok 8 6 (mR 21 15) ?_;refine ab' (be' (hSa.tr kad) ct.args aA cA hsA) ?_;rintro e wb ⟨⟨va,rfl,hva⟩,hkb⟩;have kab:=kad.tr hkb;refine ⟨.inl (kab.weak (by simp)),?_⟩;refine nV τok 15 5 (mR 21 16) ?_;refine ab' (be' (hSa.tr kab) ct.out aU cU hsU) ?_;rintro e wc ⟨⟨vu,rfl,hvu⟩,hkc⟩;have kac:=kab.tr hkc;refine ⟨.inl (kac.weak (by simp)),?_⟩;obtain ⟨fa,ga,rfl,_,_⟩:=id hva;obtain ⟨fu,gu,rfl,_,_⟩:=id hvu;refine nV τok 16 4 (mR 21 17) ?_;refine ⟨.inl (kac.weak (by simp)),?_⟩;refine nV τok 17 3 (mR 21 18) ?_;refine fill [.slice fa ct.args.length ga,.slice fu ct.out.length gu] rfl ?_;refine new fun bt we hbt ht hse hke=>?_;have kae:=kac.tr hke;refine ⟨.inl (kae.weak (by simp)),?_⟩;refine nV τok 18 2 (mR 21 19) ?_;have hdn:∀ b o v,New wa.heap.size we b o v -> Dn w9.heap.size vc we b o v:=oY' hOc (Kp.refl [] we);have hva':=hva.mono fun b o v h=>hdn b o v ⟨by have:=h.1; have:=kad.size; omega,h.2.kp (hkc.tr hke) (by simp)⟩;have hvu':=hvu.mono fun b o v h=>hdn b o v ⟨by have:=h.1; have:=kab.size; omega,h.2.kp hke (by simp)⟩;refine (hOc.kp kae).ap1 τok rfl rfl (by decide) ct [.slice fa ct.args.length ga,.slice fu ct.out.length gu] ⟨_,_,rfl,hva',hvu'⟩ (fun k u hk=>by rw [KW]; exact ht.cl hk) (by omega) (by simp only [maxLen]; omega) fun vf wf hOf hkf hvf=>?_;have kaf:Kp vc.ownBlock.toList wa wf:=(kae.weak (by simp)).trans hkf fun y hy _=>hy;refine ⟨.inl kaf,?_⟩;refine rV τok [19] 1 (mR 21 20) kaf ?_;refine nV τok 20 0 (mR 21 21) ?_;have of':vf.oneCell' = true:=by obtain ⟨_,_,e⟩:=hOf.len; rw [e]; rfl
   refine st (b:=b6) (o:=4) (h6.kp kaf (nbv _ hl6)) (by simp) of' fun wg h6 hsg hkg=>?_;refine ⟨.inr (by kernel_rfl),?_⟩;refine dV ?_;refine i6 ?_;refine ⟨(j + 1,vf),by simp only; omega,rfl,⟨rfl,rfl,rfl,rfl,rfl,rfl,rfl,trivial⟩,by show j + 1 <= _; omega,h6,?_,?_⟩
   ·simp only
    rw [ak' hct];exact hOf.kpl hkg (by simpa using hl6)
   ·exact (k9a.trans kaf fun y hy hl=>absurd hy (nbv y hl)).trans hkg fun y hy _=>hy
  have g2:¬ (j:Int) < (x.ctors.length:Int):=g2;obtain rfl:j = x.ctors.length:=by omega
  rw [JG (KJ _)] at hOc;have h3a:=h3.kp k6a (by simp);refine eT' τok ?_;refine ld (h3a.cl rfl).cell ?_;refine ldN [iV x.kind,c1,c2,c3,vc,c5,c6] rfl (bZ h6) ?_;have hvc:=hOc.svN (by omega) (KJ _);refine fill [iV x.kind,c1,c2,c3,vc,c5,c6] (by
   obtain ⟨_,_,rfl,_,_⟩:=hc1;obtain ⟨_,_,rfl,_,_⟩:=hc2;obtain ⟨_,_,rfl,_,_⟩:=hc3;obtain ⟨_,_,rfl,_,_⟩:=hc5;obtain ⟨_,_,rfl,_,_⟩:=hc6;obtain ⟨_,_,rfl,_,_⟩:=hvc
   kernel_rfl) ?_
  refine new fun bt wb hbt ht hsb hkb=>?_;have k6b:=k6a.tr hkb;have htl:(B.ents.take i).length = i:=by rw [List.length_take]; omega
  have hOe6:=hOe.block;have toD:∀ b o v,Nx w8.heap.size b6 w9 b o v -> Dn wm.heap.size ve wb b o v:=fun b o v h=>by
   have z1:=h.1;have z2:=k68.size;refine ⟨by omega,fun e=>?_,?_⟩
   ·have:=(hOe6 b e.symm).2
    omega
   ·exact (h.2.2.kp k9a (by simpa using h.2.1)).kp hkb (by simp)
  have hvc':=hvc.mono fun b o v (h:New w9.heap.size wa b o v)=>(⟨by have:=h.1; have:=k69.size; omega,fun e=>by have:=(hOe6 b e.symm).2; have:=h.1; have:=k69.size; omega,h.2.kp hkb (by simp)⟩:Dn wm.heap.size ve wb b o v)
  refine (hOe.kp k6b).ap1 τok rfl rfl (by decide) x [iV x.kind,c1,c2,c3,vc,c5,c6] ⟨c1,c2,c3,vc,c5,c6,rfl,hki,hc1.mono toD,hc2.mono toD,hc3.mono toD,hvc',hc5.mono toD,hc6.mono toD⟩ (fun k u hk=>by rw [KW]; exact ht.cl hk) (by omega) (by simp only [maxLen]; omega) fun vf wf hOf hkf hvf=>?_;have of':vf.oneCell' = true:=by obtain ⟨_,_,e⟩:=hOf.len; rw [e]; rfl
  have nb3:b3 ∉ ve.ownBlock.toList:=fun hm=>by have:=(hOe6 b3 (by simpa using hm)).1; omega
  refine st (b:=b3) (o:=2) ((h3.kp k6b (by simp)).kp hkf nb3) (by simp) of' fun wg h3g hsg hkg=>?_;refine eT' τok ?_;refine i6 ?_;refine ⟨(i + 1,vf),by simp only; omega,rfl,⟨rfl,rfl,rfl,rfl,trivial⟩,by show i + 1 <= _; omega,h3g,?_,?_⟩
  ·simp only
   rw [ak' hx];exact hOf.kpl hkg (by simpa using hl3)
  ·exact ((km6.tr k6b).trans hkf fun y hy hl=>by have:=(hOe6 y (by simpa using hy)).1; omega).trans hkg fun y hy _=>hy
 have g1:¬ (i:Int) < (B.ents.length:Int):=g1;obtain rfl:i = B.ents.length:=by omega
 rw [JG (KJ _)] at hOe;have hOe6:=hOe.block;refine eT' τok ?_;refine ldN [iV B.vars,vo,ve,iV B.nat,vp] rfl (bZ h3) ?_;have oe:ve.oneCell' = true:=by obtain ⟨_,_,e⟩:=hOe.len; rw [e]; rfl
 refine stN (vs:=[iV B.vars,vo,ve,iV B.nat,vp]) h26 rfl (by intro v hv; simp at hv; rcases hv with rfl | rfl | rfl | rfl | rfl <;> first | rfl | exact hvo.one | exact hvp.one | exact oe) fun wz h2z hsz hkz=>?_;refine lL' τok rfl [iV B.vars,vo,ve,iV B.nat,vp] rfl (fun j v hj=>h2z.cl hj) ?_;have up:∀ b o u,Im [b3,b2] wm b o u -> Ap ve wz b o u:=fun b o u h=>by
  have hlt:=h.hold;have h2:=h.2;simp only [JJ,JZ,or_false,not_or] at h2;exact ⟨fun e=>by have:=(hOe6 b e.symm).1; omega,(h.1.kp km6 (by simpa using h2.1)).kp hkz (by simpa using h2.2)⟩
 exact ⟨vo,ve,vp,rfl,hvo.mono up,(hOe.kpl hkz (by simp; omega)).low' (by have:=k0m.size; omega),hvp.mono up,k06.trans hkz fun y hy hl=>by simp at hy; omega⟩
end
end Go.Proofs.YtbnhfnfgabkelaaGreat
