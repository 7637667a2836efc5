import Derived.Test.YtmlnlmkmpgkekaaGreatMy22
import Derived.Lib.SliceRun
set_option linter.unusedVariables false
set_option linter.unusedSimpArgs false
set_option maxRecDepth 100000
set_option maxHeartbeats 4000000
namespace Go.Proofs.YtmlnlmkmpgkekaaGreat
open Go.Wx Cd Tm Lv
theorem i64n {i:Int} (h:0 <= i) (h2:i <= 100):I64 i:=by unfold I64; omega
section
variable {B:BoT}
theorem so' (hB:GoodB B) (va:Value):∀ g,vX' B va g (erG B g):=by
 intro g
 induction g with
 | zero =>
  intro X w be cx n t vc v hX hbe hcx hcl hJ hn ht hg;have:=ag' t;omega
 | succ g ih =>
  intro X w be cx n t vc v hX hbe hcx hcl hJ hn ht hg hc hv;have hrk:ErK B (erG B g):=fun M cx y n q h=>tf' hB g M cx y n q h;obtain ⟨rc,hrcE⟩:∃ rc,rc = erG B g:=⟨_,rfl⟩
  refine oF Tryz.func22 ?_;obtain ⟨RES,hRES⟩:∃ r,erG B (g + 1) cx t n = r:=⟨_,rfl⟩
  rw [hRES];simp only [erG] at hRES;rw [<- hrcE] at ih hrk hRES;have hrc:vX' B va g rc:=@ih;unfold te' at hRES;have htl:=ht.len;have hkr:=ff' t;have hvv:=hv;obtain ⟨bt,ot,ct,rfl,hi1,hi2,hi3,hhc⟩:=hv.hd;obtain ⟨ac,cc,rfl,_,_⟩:=id hc;refine cO (args:=[_,_,_]) 117 [.tmp 6] τok Tryz.func22 ?_;refine ab' (ql' hB hcx hcl hX hbe hJ ht hc hvv) ?_;rintro e w1 he;rcases he.cs with ⟨er,hq,rfl,hk1⟩ | ⟨⟨ty,n1⟩,u,hq,rfl,hu,hJ1,hk1⟩
  ·rw [hq] at hRES
   obtain rfl:.error er = RES:=hRES;exact ⟨rfl,hk1⟩
  have htq:=hq;rw [hq] at hRES;simp only [bdJ] at hRES;have htyF:=(aN' hB GJ).ft _ _ _ _ hcx hcl ht hq;have hn1:n1 <= 100000:=by
   have h1:=(aN' hB GJ).le _ _ _ _ hq;have h2:=ee' (n:Int);exact KQ h1 h2
  have hX1:=xU hX hk1;have up1:=Im.kb hk1 hbe;have hu:TmV (Im X w1) ty u:=hu;refine ab' (qo' hB hcx hcl hX1 hbe hJ1 hn1 htyF (hc.mono up1) hu) ?_;rintro e w2 he;rcases he.cs with ⟨er,hq,rfl,hk2⟩ | ⟨⟨b,n2⟩,u2,hq,rfl,hu2,hJ2,hk2⟩
  ·rw [hq] at hRES
   obtain rfl:.error er = RES:=hRES;exact ⟨rfl,hk1.tq hk2⟩
  have hn2:n2 <= 100000:=KQ (jA' hB hq) hn1;rw [hq] at hRES;simp only at hRES;have hu2:u2 = .bool b:=hu2;subst hu2;have k02:Kp [be] w w2:=hk1.tq hk2;have hX2:=xU hX k02;have up2:=Im.kb k02 hbe;cases b with
  | true =>
   rw [if_pos rfl] at hRES;subst hRES;refine ab' (ex' w2 (op:=22) (ia:=0) (ib:=0) (i64n (by omega) (by omega)) (i64n (by omega) (by omega)) (i64n (by omega) (by omega))) ?_;rintro e w3 ⟨⟨v3,rfl,hr3⟩,hk3⟩;exact ⟨⟨v3,rfl,hr3.low k02.size,(hJ2.mono fun b o v h=>h.tr hk3).kp hk3 (by simp)⟩,k02.tr hk3⟩
  | false =>
  rw [if_neg (by decide)] at hRES;unfold np' at hRES;refine ab' (dt' (Im.sub X w2) (fun _ _ _ h=>h.hold) ht (hvv.mono up2)) ?_;rintro e w3 ⟨uk,rfl,hks,hk3⟩;have hks:=hks.tv hX2;have tr3:∀ b o v,Im X w2 b o v -> Im X w3 b o v:=fun b o v h=>h.tr hk3;refine ix 0 rfl (ag' _) ?_;refine ldN [iV t.n.op,iV t.n.a,iV t.n.b] rfl (fun j u hj=>by rw [show ot + 0 * 3 + j = ot + j by omega]; exact (tr3 _ _ _ (up2 _ _ _ (hhc j u hj))).1) ?_;refine new fun b7 w4 hb7 h7 hs4 hk4=>?_;refine stN (vs:=[iV t.n.op,iV t.n.a,iV t.n.b]) h7 rfl (by simp [Value.oneCell']) fun w5 h7 hs5 hk5=>?_;have k35:=hk4.newSt hb7 hk5;have h7:Bk w5.heap b7 [iV t.n.op,iV t.n.a,iV t.n.b] 42:=h7;have k25:=hk3.tr k35;have k05:Kp [be] w w5:=k02.tr k25;have hX3:=xU hX2 hk3;have hX5:=xU hX k05;have hb7X:b7 ∉ X:=fun hm=>by
   have h1:=hX3 _ hm;omega
  have up5:∀ b o v,Im X w b o v -> Im X w5 b o v:=fun b o v h=>(up2 _ _ _ h).tr k25;have hJ5:EraC (Im X w5) w5 be B n2 va:=(hJ2.mono fun b o v h=>h.tr k25).kp k25 (by simp);have hc5:=hc.mono up5;have huk:=hks.mono fun b o v h=>Im.tr k35 h;have leafE:∀ (op ia ib:Int),I64 op -> I64 ia -> I64 ib -> Except.ok (([⟨op,ia,ib⟩]:List Nd),n2) = RES -> ∀ e w6,((∃ v,e = .returned v /\ IsRw [⟨op,ia,ib⟩] w5 w6 v) /\ Kp [] w5 w6) -> ErP (fun w' r u=>IsRw r w w' u) X w be B va RES e w6:=by
   rintro op ia ib _ _ _ rfl e w6 ⟨⟨v6,rfl,hr6⟩,hk6⟩;exact ⟨⟨v6,rfl,hr6.low k05.size,(hJ5.mono fun b o v h=>h.tr hk6).kp hk6 (by simp)⟩,k05.tr hk6⟩
  refine lb h7 ?_;refine ac' (fun g1=>?_) (fun g1=>?_)
  ·have g1:t.n.op = 1:=g1
   rw [if_pos g1] at hRES;refine lb h7 ?_;refine ab' (ex' w5 (op:=21) (ia:=t.n.a) (ib:=0) (i64n (by omega) (by omega)) hi2 (i64n (by omega) (by omega))) ?_;rintro e w6 h6;obtain ⟨⟨v6,rfl,_⟩,_⟩:=id h6;exact leafE _ _ _ (i64n (by omega) (by omega)) hi2 (i64n (by omega) (by omega)) hRES _ _ h6
  have g1:¬ t.n.op = 1:=g1;rw [if_neg g1] at hRES;refine ac' (fun g8=>?_) (fun g8=>?_)
  ·have g8:t.n.op = 8:=g8
   rw [if_pos g8] at hRES;refine lb h7 ?_;refine ab' (ex' w5 (op:=26) (ia:=t.n.a) (ib:=0) (i64n (by omega) (by omega)) hi2 (i64n (by omega) (by omega))) ?_;rintro e w6 h6;obtain ⟨⟨v6,rfl,_⟩,_⟩:=id h6;exact leafE _ _ _ (i64n (by omega) (by omega)) hi2 (i64n (by omega) (by omega)) hRES _ _ h6
  have g8:¬ t.n.op = 8:=g8;rw [if_neg g8] at hRES;refine ac' (fun ga=>?_) (fun ga=>?_)
  ·have ga:t.n.op = 10:=ga
   rw [if_pos ga] at hRES;refine lb h7 ?_;refine lb h7 ?_;refine ab' (ex' w5 (op:=27) (ia:=t.n.a) (ib:=t.n.b) (i64n (by omega) (by omega)) hi2 hi3) ?_;rintro e w6 h6;obtain ⟨⟨v6,rfl,_⟩,_⟩:=id h6;exact leafE _ _ _ (i64n (by omega) (by omega)) hi2 hi3 hRES _ _ h6
  have ga:¬ t.n.op = 10:=ga;rw [if_neg ga] at hRES;refine ac' (fun g5=>?_) (fun g5=>?_)
  ·have g5:t.n.op = 5:=g5
   rw [if_pos g5] at hRES;have h256:=lV' hB ht.ok htq (.inl g5);obtain ⟨hkl,f0,f1⟩:=bR' ht (.inr g5);obtain ⟨e0,_⟩:=ht.kidD (k:=0) (by omega);obtain ⟨e1,_⟩:=ht.kidD (k:=1) (by omega);have n1':=bL' t _ (JQ e1);obtain ⟨bk,ok,ck,a0,c0,a1,c1,rfl,h0,hT0,h1,hT1⟩:=huk.two e0 e1;have hcxs:CxOk B (cx ++ [(kidD t 0,none)]):=hcx.snoc f0 fun x hx=>by cases hx
   have hlen:(cx ++ [(kidD t 0,none)]).length = cx.length + 1:=bp';have f1':Ft (QB B) ((cx ++ [(kidD t 0,none)]).length:Int) (kidD t 1):=by rw [hlen]; exact f1.mono (by omega)
   refine cj' τok (fun z=>Kp [be] w5 z) ?_;refine rP τok [0,1,2,3,4,5,8,9,10] 6 (mB 15 [6,7,11,12,13,14]) ((Kp.refl [be] w5).dr _) ?_;refine ix 0 rfl (by omega) ?_;refine ldI hbe h0 ?_;refine ix 1 rfl (by omega) ?_;refine ldI hbe h1 ?_;refine an' τok 6 5 (mB 15 [7,11,12,13,14]) rfl rfl rfl (by kernel_rfl) ?_;refine fill [.slice a0 (row (kidD t 0)).length c0,.slice none 0 0] rfl ?_;refine new fun b6 w6 hb6 h6 hs6 hk6=>?_;have hk6:Kp [] w5 w6:=hk6.rd;have hX6:=xU hX5 hk6;have hb6X:b6 ∉ X:=fun hm=>by
    have h1:=hX5 _ hm;have h2:b6 = w5.heap.size:=hb6;omega
   have tr6:∀ b o v,Im X w5 b o v -> Im X w6 b o v:=fun b o v h=>h.tr hk6;refine ⟨.inl (hk6.weak (by simp)),?_⟩;refine an' τok 7 4 (mR 15 11) rfl rfl rfl (by kernel_rfl) ?_;refine ab' (cA' (t:=kidD t 0) (o:=none) hX6 (hc5.mono tr6) (by omega) h6 hb6X (hT0.mono tr6) (SV.nil _ _)) ?_;rintro e w7 ⟨⟨vc7,rfl,hc7⟩,hk7⟩;have k57:=hk6.tr hk7;have hX7:=xU hX6 hk7;refine ⟨.inl (k57.weak (by simp)),?_⟩;refine an' τok 11 3 (mR 15 12) rfl rfl rfl (by kernel_rfl) ?_;refine ab' (hrc hX7 hbe hcxs (by omega) ((hJ5.mono fun b o v h=>h.tr k57).kp k57 (by simp)) hn2 f1' (by omega) hc7 (hT1.mono fun _ _ _ h=>(tr6 _ _ _ h).tr hk7)) ?_;rintro e w8 he;rcases he.cs with ⟨er,hq8,rfl,hk8⟩ | ⟨⟨r8,n8⟩,u8,hq8,rfl,hu8,hJ8,hk8⟩
   ·rw [hq8] at hRES
    obtain rfl:.error er = RES:=hRES;exact ⟨rfl,rfl,(k05.tr k57).tq hk8⟩
   rw [hq8] at hRES;simp only [bdJ] at hRES;obtain ⟨hl8,_⟩:=hrk _ _ _ _ _ f1' hq8;simp only at hu8 hJ8 hl8;have k58:Kp [be] w5 w8:=(k57.weak (by simp)).tq hk8;refine ⟨.inl k58,?_⟩;refine an' τok 12 2 (mR 15 13) rfl rfl rfl (by kernel_rfl) ?_;obtain ⟨a8,c8,rfl,_,_⟩:=id hu8;refine fill [.slice a8 r8.length c8] rfl ?_;refine new fun b9 w9 hb9 h9 hs9 hk9=>?_;have hX8:=xU hX7 hk8;have hb9X:b9 ∉ X:=fun hm=>by
    have h1:=hX8 _ hm;have h2:b9 = w8.heap.size:=hb9;omega
   refine ⟨.inl (k58.tr hk9),?_⟩;refine an' τok 13 1 (mR 15 14) rfl rfl rfl (by kernel_rfl) ?_;refine ab' (dm' (Im.sub X w9) (op:=23) (ia:=0) (ib:=0) (i64n (by omega) (by omega)) (i64n (by omega) (by omega)) (i64n (by omega) (by omega)) [r8] (some ⟨b9,0,none⟩) 1 (vL' h9 hb9X ((hu8.kp hk9 (by simp)).im hX7)) (by simp) (by simp; omega)) ?_;rintro e wa ⟨⟨va',rfl,hra⟩,hka⟩;have k8a:=hk9.tr hka;have kwa:=(k05.tq k58).tr k8a;refine ⟨.inl (k58.tr k8a),?_⟩;refine rP τok [14] 0 (mR 15 15) (k58.tr k8a) ?_;refine dP ?_;subst hRES;refine ⟨⟨va',rfl,?_,(hJ8.mono fun b o v h=>h.tr k8a).kp k8a (by simp)⟩,kwa⟩;have:=hra.low (w:=w) ((k05.tq k58).tr hk9).size
   simpa using this
  have g5:¬ t.n.op = 5:=g5;rw [if_neg g5] at hRES;refine ac' (fun g6=>?_) (fun g6=>?_)
  ·have g6:t.n.op = 6:=g6
   rw [if_pos g6] at hRES;obtain ⟨hkl,f0,f1⟩:=gl' ht g6;obtain ⟨e0,_⟩:=ht.kidD (k:=0) (by omega);obtain ⟨e1,_⟩:=ht.kidD (k:=1) (by omega);have n0':=bL' t _ (JQ e0);have n1':=bL' t _ (JQ e1);obtain ⟨bk,ok,ck,a0,c0,a1,c1,rfl,h0,hT0,h1,hT1⟩:=huk.two e0 e1;refine ix 0 rfl (by omega) ?_;refine ld (Im.sub X w5 _ _ _ h0).cell ?_;refine ab' (hrc hX5 hbe hcx hcl hJ5 hn2 f0 (by omega) hc5 hT0) ?_;rintro e w6 he;rcases he.cs with ⟨er,hq6,rfl,hk6⟩ | ⟨⟨r6,n6⟩,u6,hq6,rfl,hu6,hJ6,hk6⟩
   ·rw [hq6] at hRES
    obtain rfl:.error er = RES:=hRES;exact ⟨rfl,k05.tq hk6⟩
   rw [hq6] at hRES;simp only [bdJ] at hRES;obtain ⟨hl6,hn6⟩:=hrk _ _ _ _ _ f0 hq6;simp only at hu6 hJ6 hl6 hn6;have up6:=Im.kb hk6 hbe;have hX6:=xU hX5 hk6;refine ix 1 rfl (by omega) ?_;refine ld (Im.sub X w6 _ _ _ (up6 _ _ _ h1)).cell ?_;refine ab' (hrc hX6 hbe hcx hcl hJ6 (by omega) f1 (by omega) (hc5.mono up6) (hT1.mono up6)) ?_;rintro e w7 he;rcases he.cs with ⟨er,hq7,rfl,hk7⟩ | ⟨⟨r7,n7⟩,u7,hq7,rfl,hu7,hJ7,hk7⟩
   ·rw [hq7] at hRES
    obtain rfl:.error er = RES:=hRES;exact ⟨rfl,(k05.tq hk6).tq hk7⟩
   rw [hq7] at hRES;obtain ⟨hl7,hn7⟩:=hrk _ _ _ _ _ f1 hq7;simp only at hu7 hJ7 hl7 hRES;have hbe5:=hX5 be hbe;obtain ⟨a6,c6,rfl,_,_⟩:=id hu6;obtain ⟨a7,c7,rfl,_,_⟩:=id hu7;refine fill [.slice a6 r6.length c6,.slice a7 r7.length c7] rfl ?_;refine new fun b9 w9 hb9 h9 hs9 hk9=>?_;have hX7:=xU hX6 hk7;have hb9X:b9 ∉ X:=fun hm=>by
    have h1:=hX7 _ hm;have h2:b9 = w7.heap.size:=hb9;omega
   refine ab' (dm' (Im.sub X w9) (op:=24) (ia:=0) (ib:=0) (i64n (by omega) (by omega)) (i64n (by omega) (by omega)) (i64n (by omega) (by omega)) [r6,r7] (some ⟨b9,0,none⟩) 2 (qq' h9 hb9X ((hu6.kp (hk7.tr hk9) (by simpa using hbe5)).im hX5) ((hu7.kp hk9 (by simp)).im hX6)) (by simp) (by simp; omega)) ?_;rintro e wa ⟨⟨va',rfl,hra⟩,hka⟩;have k7a:=hk9.tr hka;have kw7:Kp [be] w w7:=(k05.tq hk6).tq hk7;subst hRES;refine ⟨⟨va',rfl,?_,(hJ7.mono fun b o v h=>h.tr k7a).kp k7a (by simp)⟩,kw7.tr k7a⟩;have:=hra.low (w:=w) (kw7.tr hk9).size
   simpa using this
  have g6:¬ t.n.op = 6:=g6;rw [if_neg g6] at hRES;refine ac' (fun g7=>?_) (fun g7=>?_)
  ·have g7:t.n.op = 7:=g7
   rw [if_pos g7] at hRES;have h256:=lV' hB ht.ok htq (.inr (.inl g7));obtain ⟨hkl,f0,f1,f2⟩:=gm' ht g7;obtain ⟨e0,_⟩:=ht.kidD (k:=0) (by omega);obtain ⟨e1,_⟩:=ht.kidD (k:=1) (by omega);obtain ⟨e2,_⟩:=ht.kidD (k:=2) (by omega);have n1':=bL' t _ (JQ e1);have n2':=bL' t _ (JQ e2);obtain ⟨bk,ok,ck,a0,c0,a1,c1,pk,h0,hT0,h1,hT1⟩:=huk.two e0 e1;obtain ⟨bk2,ok2,ck2,pk2,z2,h2,hT2⟩:=huk.get e2;subst pk;injection pk2 with q1 q2 q3
   injection q1 with q1
   injection q1 with q1 q4
   subst q1 q4;obtain ⟨a2,c2,rfl,_,_⟩:=id hT2;have hcxs:CxOk B (cx ++ [(kidD t 0,some (kidD t 1))]):=hcx.snoc f0 fun x hx=>by injection hx with hx; rw [<- hx]; exact f1
   have hlen:(cx ++ [(kidD t 0,some (kidD t 1))]).length = cx.length + 1:=bp';have f2':Ft (QB B) ((cx ++ [(kidD t 0,some (kidD t 1))]).length:Int) (kidD t 2):=by rw [hlen]; exact f2.mono (by omega)
   refine ix 1 rfl (by omega) ?_;refine ld (Im.sub X w5 _ _ _ h1).cell ?_;refine ab' (hrc hX5 hbe hcx hcl hJ5 hn2 f1 (by omega) hc5 hT1) ?_;rintro e w5a he;rcases he.cs with ⟨er,hq5,rfl,hk5a⟩ | ⟨⟨r5,n5⟩,u5,hq5,rfl,hu5,hJ5a,hk5a⟩
   ·rw [hq5] at hRES
    obtain rfl:.error er = RES:=hRES;exact ⟨rfl,k05.tq hk5a⟩
   rw [hq5] at hRES;simp only [bdJ] at hRES;obtain ⟨hl5,hn5⟩:=hrk _ _ _ _ _ f1 hq5;simp only at hu5 hJ5a hl5 hn5;have up5a:=Im.kb hk5a hbe;have hbe5:=hX5 be hbe;have hX5a:=xU hX5 hk5a;have kwa5:Kp [be] w w5a:=k05.tq hk5a;obtain ⟨a5,c5,rfl,_,_⟩:=id hu5;refine cj' τok (fun z=>Kp [be] w5a z) ?_;refine rP τok [0,1,2,3,4,5,6,7,8,9,12,13,14] 6 (mB 19 [10,11,15,16,17,18]) ((Kp.refl [be] w5a).dr _) ?_;refine ix 0 rfl (by omega) ?_;refine ldI hbe (up5a _ _ _ h0) ?_;refine ix 1 rfl (by omega) ?_;refine ldI hbe (up5a _ _ _ h1) ?_;refine ix 2 rfl (by omega) ?_;refine ldI hbe (up5a _ _ _ h2) ?_;refine an' τok 10 5 (mB 19 [11,15,16,17,18]) rfl rfl rfl (by kernel_rfl) ?_;refine fill [.slice a0 (row (kidD t 0)).length c0,.slice a1 (row (kidD t 1)).length c1] rfl ?_;refine new fun b6 w6 hb6 h6 hs6 hk6=>?_;have hk6:Kp [] w5a w6:=hk6.rd;have hX6:=xU hX5a hk6;have hb6X:b6 ∉ X:=fun hm=>by
    have h1:=hX5a _ hm;have h2:b6 = w5a.heap.size:=hb6;omega
   have tr6:∀ b o v,Im X w5 b o v -> Im X w6 b o v:=fun b o v h=>(up5a _ _ _ h).tr hk6;refine ⟨.inl (hk6.weak (by simp)),?_⟩;refine an' τok 11 4 (mR 19 15) rfl rfl rfl (by kernel_rfl) ?_;refine ab' (cA' (t:=kidD t 0) (o:=some (kidD t 1)) hX6 (hc5.mono tr6) (by omega) h6 hb6X (hT0.mono tr6) (TmV.sv.1 (hT1.mono tr6))) ?_;rintro e w7 ⟨⟨vc7,rfl,hc7⟩,hk7⟩;have k57:=hk6.tr hk7;have hX7:=xU hX6 hk7;refine ⟨.inl (k57.weak (by simp)),?_⟩;refine an' τok 15 3 (mR 19 16) rfl rfl rfl (by kernel_rfl) ?_;refine ab' (hrc hX7 hbe hcxs (by omega) ((hJ5a.mono fun b o v h=>h.tr k57).kp k57 (by simp)) (by omega) f2' (by omega) hc7 (hT2.mono fun _ _ _ h=>(tr6 _ _ _ h).tr hk7)) ?_;rintro e w8 he;rcases he.cs with ⟨er,hq8,rfl,hk8⟩ | ⟨⟨r8,n8⟩,u8,hq8,rfl,hu8,hJ8,hk8⟩
   ·rw [hq8] at hRES
    obtain rfl:.error er = RES:=hRES;exact ⟨rfl,rfl,(kwa5.tr k57).tq hk8⟩
   rw [hq8] at hRES;obtain ⟨hl8,_⟩:=hrk _ _ _ _ _ f2' hq8;simp only at hu8 hJ8 hl8 hRES;have k58:Kp [be] w5a w8:=(k57.weak (by simp)).tq hk8;refine ⟨.inl k58,?_⟩;refine an' τok 16 2 (mR 19 17) rfl rfl rfl (by kernel_rfl) ?_;obtain ⟨a8,c8,rfl,_,_⟩:=id hu8;refine fill [.slice a5 r5.length c5,.slice a8 r8.length c8] rfl ?_;refine new fun b9 w9 hb9 h9 hs9 hk9=>?_;have hX8:=xU hX7 hk8;have hb9X:b9 ∉ X:=fun hm=>by
    have h1:=hX8 _ hm;have h2:b9 = w8.heap.size:=hb9;omega
   refine ⟨.inl (k58.tr hk9),?_⟩;refine an' τok 17 1 (mR 19 18) rfl rfl rfl (by kernel_rfl) ?_;refine ab' (dm' (Im.sub X w9) (op:=25) (ia:=0) (ib:=0) (i64n (by omega) (by omega)) (i64n (by omega) (by omega)) (i64n (by omega) (by omega)) [r5,r8] (some ⟨b9,0,none⟩) 2 (qq' h9 hb9X ((hu5.kp (k58.tr hk9) (by simpa using hbe5)).im hX5) ((hu8.kp hk9 (by simp)).im hX7)) (by simp) (by simp; omega)) ?_;rintro e wa ⟨⟨va',rfl,hra⟩,hka⟩;have k8a:=hk9.tr hka;have kw8:Kp [be] w w8:=kwa5.tq k58;refine ⟨.inl (k58.tr k8a),?_⟩;refine rP τok [18] 0 (mR 19 19) (k58.tr k8a) ?_;refine dP ?_;subst hRES;refine ⟨⟨va',rfl,?_,(hJ8.mono fun b o v h=>h.tr k8a).kp k8a (by simp)⟩,kw8.tr k8a⟩;have:=hra.low (w:=w) (kw8.tr hk9).size
   simpa using this
  have g7:¬ t.n.op = 7:=g7;rw [if_neg g7] at hRES;refine ac' (fun gm=>?_) (fun gm=>?_)
  ·have gm:t.n.op = 11:=gm
   rw [if_pos gm] at hRES;refine ldN [iV t.n.op,iV t.n.a,iV t.n.b] rfl (bZ h7) ?_;refine ab' (qr' hB @hrc hrk hX5 hbe hcx hcl hJ5 hn2 ht gm hg (nX' htq gm) hc5 huk ⟨hi1,hi2,hi3⟩) ?_;rintro e w6 he;rw [hRES] at he;rcases he.cs with ⟨er,rfl,rfl,hk6⟩ | ⟨⟨r6,n6⟩,u6,rfl,rfl,hu6,hJ6,hk6⟩
   ·exact ⟨rfl,k05.tq hk6⟩
   ·exact ⟨⟨u6,rfl,IsRw.low hu6 k05.size,hJ6⟩,k05.tq hk6⟩
  have gm:¬ t.n.op = 11:=gm;rw [if_neg gm] at hRES;refine ac' (fun gf=>?_) (fun gf=>?_)
  ·have gf:t.n.op = 12:=gf
   rw [if_pos gf] at hRES;refine ldN [iV t.n.op,iV t.n.a,iV t.n.b] rfl (bZ h7) ?_;refine ab' (ur' hB @hrc hrk hX5 hbe hcx (lV' hB ht.ok htq (.inr (.inr gf))) hJ5 hn2 ht gf hg hc5 huk ⟨hi1,hi2,hi3⟩) ?_;rintro e w6 he;rw [hRES] at he;rcases he.cs with ⟨er,rfl,rfl,hk6⟩ | ⟨⟨r6,n6⟩,u6,rfl,rfl,hu6,hJ6,hk6⟩
   ·exact ⟨rfl,k05.tq hk6⟩
   ·exact ⟨⟨u6,rfl,IsRw.low hu6 k05.size,hJ6⟩,k05.tq hk6⟩
  have gf:¬ t.n.op = 12:=gf;rw [if_neg gf] at hRES;refine ab' (ex' w5 (op:=22) (ia:=0) (ib:=0) (i64n (by omega) (by omega)) (i64n (by omega) (by omega)) (i64n (by omega) (by omega))) ?_;rintro e w6 h6;obtain ⟨⟨v6,rfl,_⟩,_⟩:=id h6;exact leafE _ _ _ (i64n (by omega) (by omega)) (i64n (by omega) (by omega)) (i64n (by omega) (by omega)) hRES _ _ h6
end
theorem sp' (b0 b1:Nat) (w:World) :
  CallsD Tryz.prog 37 #[pt b0,pt b1] .returning w fun e u' w'=>(∃ v,e = .returned v) /\ u' = .returning /\ Kp [] w w':=by
 refine callsD_of_wpS Tryz.func37 rfl fun c₀ cs hu=>?_;apply wpS_seq;apply wpS_region;simp [wpOpsS,go_sem,recoverD,hu,Exit.thenS,Instr.typeAssert,Tryz.underlying85,Tryz.zeroValue85];refine wpS_of_wp (Go.wp_mono (ax' τok (n:=12) _ ⟨[(0,pt b0),(1,pt b1),(2,pt w.heap.size),(3,.bool false)],[]⟩ _ (fun e s w'=>e = .normal /\ s.d = [] /\ Kp [] w w') ?_ _ (hH' (by simp) rfl ?_)) ?_)
 ·exact ⟨rfl,rfl,Kp.alloc _ _⟩
 ·intro q hq
  simp only [JJ,JZ,or_false] at hq;rcases hq with rfl | rfl | rfl | rfl <;> simp
 ·rintro e a' w' ⟨s,hF,rfl,hd,hk⟩
  exact nC' hF hd rfl hu ⟨⟨_,rfl⟩,rfl,hk⟩
theorem qs' {w:World} {b0 b1 T0 T1:Nat} {v0 v1:Value} (h0:Bk w.heap b0 [v0] T0) (h1:Bk w.heap b1 [v1] T1) (n01:b0 ≠ b1) (er:Int) :
  CallsD Tryz.prog 37 #[pt b0,pt b1] (.panicking (kN' er)) w fun e u' w'=>(∃ v,e = .returned v) /\ settle u' = .returning /\ Bk w'.heap b0 [iV 0] T0 /\ Bk w'.heap b1 [iV er] T1 /\ Kp [b0,b1] w w':=by
 refine callsD_of_wpS Tryz.func37 rfl fun c₀ cs hu=>?_;apply wpS_seq;apply wpS_region;simp [wpOpsS,go_sem,recoverD,hu,Exit.thenS,Instr.typeAssert,Tryz.underlying85,Tryz.zeroValue85];refine wpS_of_wp (Go.wp_mono (ax' τok (n:=12) _ ⟨[(0,pt b0),(1,pt b1),(2,pt w.heap.size),(3,.bool true)],[]⟩ _ (fun e s w'=>e = .normal /\ s.d = [] /\ Bk w'.heap b0 [iV 0] T0 /\ Bk w'.heap b1 [iV er] T1 /\ Kp [b0,b1] w w') ?_ _ (hH' (by simp) rfl ?_)) ?_)
 ·have hk1:Kp [] w (w.alloc (Obj.cells #[Value.int IntKind.i64 er] 85)):=Kp.alloc _ _
  have hB2:Bk (w.alloc (Obj.cells #[Value.int IntKind.i64 er] 85)).heap w.heap.size [iV er] 85:=by
   show (w.heap.push _)[_]? = _;simp
  obtain ⟨w1,hw1⟩:∃ w1,w1 = w.alloc (Obj.cells #[Value.int IntKind.i64 er] 85):=⟨_,rfl⟩
  obtain ⟨bf,hbf⟩:∃ bf,bf = w.heap.size:=⟨_,rfl⟩
  rw [<- hw1] at hk1 hB2 ⊢;rw [<- hbf] at hB2 ⊢;have g0:=h0.kp hk1 (by simp);have g1:=h1.kp hk1 (by simp);have l0:=h0.lt;have l1:=h1.lt;refine aq' τok (fun z=>Bk z.heap bf [iV er] 85) ?_;refine rV τok [0,1] 2 (mR 4 2) hB2 ?_;refine ldQ (fun z hz=>hz.cl rfl) ?_;refine nV τok 2 1 (mR 4 3) ?_;refine st (b:=b0) (o:=0) g0 (by simp) rfl fun w2 r0 hs2 hk2=>?_;have hk2:Kp [b0] w1 w2:=hk2.rd;have hB3:=hB2.kp hk2 (by simp; omega);refine ⟨.inl hB3,?_⟩;refine nV τok 3 0 (mR 4 4) ?_;refine st (b:=b1) (o:=0) (g1.kp hk2 (by simpa using Ne.symm n01)) (by simp) rfl fun w3 r1 hs3 hk3=>?_;refine ⟨.inr (by kernel_rfl),?_⟩;refine dV ?_;exact ⟨rfl,rfl,r0.kp hk3 (by simpa using n01),r1,((hk1.weak (by simp)).trans hk2 (fun x hx _=>by simp at hx; simp [hx])).trans hk3 (fun x hx _=>by simp at hx; simp [hx])⟩
 ·intro q hq
  simp only [JJ,JZ,or_false] at hq;rcases hq with rfl | rfl | rfl | rfl <;> simp
 ·rintro e a' w' ⟨s,hF,rfl,hd,hk⟩
  exact mw' hF hd rfl ⟨⟨_,rfl⟩,rfl,hk⟩
section
variable {B:BoT} {X:List Nat} {w:World}
theorem lW' {α:Type} {fid:Nat} {caps:Array Value} {fuel:Int} {vb:Value} {Y:List Nat} (r:Except Int (α × Nat)) (D:List Nat -> World -> α -> Prop) (hX:XL X w) (hY:∀ y ∈ Y,y ∈ X) (hb:BoV (Im X w) B vb)
  (hD:∀ X' w2 w3 q Z,Kp Z w2 w3 -> (∀ z ∈ Z,z ∈ X' /\ z ∉ X) -> D X' w2 q -> D X' w3 q)
  (hf:∀ X' bj w1,Kp [] w w1 -> (∀ y ∈ X,y ∈ X') -> (∀ y ∈ X',y ∈ X \/ w.heap.size <= y) -> (∀ b ∈ X',b < w1.heap.size) -> bj ∈ X' -> w.heap.size <= bj -> EraC (Im X' w1) w1 bj B (aI' fuel) (.slice none 0 0) -> cC' Tryz.prog fid /\ Calls Tryz.prog fid (#[] ++ #[pt bj] ++ caps) w1 (fun e w2=>oj' r (fun q=>(∃ v,e = .returned v) /\ D X' w2 q.1 /\ (∃ va,EraC (Im X' w2) w2 bj B q.2 va) /\ Kp (bj :: Y) w1 w2) (fun er=>e = .panicked (kN' er) /\ Kp [bj] w1 w2))) :
  CC 20 #[vb,iV fuel,.func (.func fid) #[] caps] w (fun e w'=>oj' r (fun q=>e = .returned (.tuple #[iV (q.2:Int),iV 0]) /\ (∃ X',(∀ y ∈ X,y ∈ X') /\ D X' w' q.1) /\ Kp Y w w') (fun er=>e = .returned (.tuple #[iV 0,iV er]) /\ Kp [] w w')):=by
 refine oF Tryz.func20 ?_;obtain ⟨v1,v2,v3,rfl,hb1,hb2,hb3⟩:=hb;refine cU' (args:=[_,_,_]) 23 [.cell 6 3,.cell 7 35] τok Tryz.func20 rfl rfl rfl (Nat.le_of_ble_eq_true rfl) ?_;refine new fun b3 w1 hb3' h3 hs1 hk1=>?_;have h3:Bk w1.heap b3 [iV B.vars,v1,v2,iV B.nat,v3] 26:=h3;refine new fun b6 w2 hb6 h6 hs2 hk2=>?_;refine new fun b7 w3 hb7 h7 hs3 hk3=>?_;have k13:=hk2.tr hk3;refine ldN [iV B.vars,v1,v2,iV B.nat,v3] rfl (fun j v hj=>by rw [KW]; exact (h3.kp k13 (by simp)).cl hj) ?_;refine ny' ?_;refine lk' ?_;obtain ⟨n,hn,hn1⟩:∃ n:Nat,min (max fuel 0) 100000 = (n:Int) /\ aI' fuel = n:=⟨_,by unfold aI'; omega,rfl⟩
 rw [hn];rw [hn1] at hf;refine new fun bj w4 hbj hJ hs4 hk4=>?_;have hJ:Bk w4.heap bj [iV B.vars,v1,v2,iV B.nat,v3,iV (n:Int),.slice none 0 0] 89:=hJ;have k04:=(hk1.tr k13).tr hk4;have h6:=h6.kp (hk3.tr hk4) (by simp);have h7:=h7.kp hk4 (by simp);have hnew:w.heap.size <= b6 /\ b6 < b7 /\ b7 < bj:=by
  have:=hk1.size;have:=hk2.size;have:=hk3.size;omega
 have hX4:∀ b ∈ bj :: b6 :: b7 :: X,b < w4.heap.size:=fun b hb=>by
  simp only [JJ] at hb;have l1:=h6.lt;have l2:=h7.lt;have l4:=hJ.lt;rcases hb with rfl | rfl | rfl | hb
  ·assumption
  ·assumption
  ·assumption
  ·have:=hX b hb; have:=k04.size; omega
 have up:∀ b o v,Im X w b o v -> Im (bj :: b6 :: b7 :: X) w4 b o v:=fun b o v h=>Im.more (X:=X) (fun y hy=>by
  simp only [JJ] at hy;rcases hy with rfl | rfl | rfl | hy
  ·exact .inr (by omega)
  ·exact .inr (by omega)
  ·exact .inr (by omega)
  ·exact .inl hy) h |>.tr k04
 have hcall:=hf (bj :: b6 :: b7 :: X) bj w4 k04 (fun y hy=>by simp [hy]) (fun y hy=>by
  simp only [JJ] at hy;rcases hy with rfl | rfl | rfl | hy
  ·exact .inr (by omega)
  ·exact .inr (by omega)
  ·exact .inr (by omega)
  ·exact .inl hy) hX4 (by simp) (by omega) ⟨v1,v2,v3,hJ,hb1.mono up,hb2.mono up,hb3.mono up⟩
 refine ab' hcall ?_;intro e w5 he;have nX:∀ y,w.heap.size <= y -> y ∉ X:=fun y hy hm=>by have:=hX y hm; omega
 have nY:∀ y,w.heap.size <= y -> y ∉ Y:=fun y hy hm=>nX y hy (hY y hm);cases r with
 | error er =>
  obtain ⟨rfl,hk5⟩:=he;have h6:=h6.kp hk5 (by simp; omega);have h7:=h7.kp hk5 (by simp; omega);refine ⟨_,_,_,37,#[pt b6,pt b7],rfl,by simp,by simp [go_sem],(qs' h6 h7 (by omega) er).mono ?_⟩;rintro e u' w6 ⟨he,hset,r6,r7,hk6⟩;refine ⟨he,hset,?_⟩;refine eh' Tryz.underlying3 (r6.cl rfl) ?_;refine eh' Tryz.underlying35 (r7.cl rfl) ?_;exact ⟨rfl,(k04.trans hk5 (fun x hx hl=>by
   obtain rfl:x = bj:=by simpa using hx
   omega)).trans hk6 (fun x hx hl=>by
    simp only [JJ,JZ,or_false] at hx;omega)⟩
 | ok q =>
  obtain ⟨⟨v,rfl⟩,hDq,⟨va,u1,u2,u3,hJ5,_⟩,hk5⟩:=he;have h6:=h6.kp hk5 (by
   have:=nY b6 (by omega);simp only [JJ,not_or];exact ⟨by omega,this⟩)
  have h7:=h7.kp hk5 (by
   have:=nY b7 (by omega);simp only [JJ,not_or];exact ⟨by omega,this⟩)
  refine lb hJ5 ?_;refine st (b:=b6) (o:=0) h6 (by simp) rfl fun w6 h6' hs6 hk6=>?_;refine st (b:=b7) (o:=0) (h7.kp hk6 (by simp; omega)) (by simp) rfl fun w7 h7' hs7 hk7=>?_;have h6'':=h6'.kp hk7 (by simp; omega);refine ⟨_,_,_,37,#[pt b6,pt b7],rfl,by simp,by simp [go_sem],(sp' b6 b7 w7).mono ?_⟩;rintro e u' w8 ⟨he,rfl,hk8⟩;refine ⟨he,rfl,?_⟩;have r6:=h6''.kp hk8 (by simp);have r7:=h7'.kp hk8 (by simp);refine eh' Tryz.underlying3 (r6.cl rfl) ?_;refine eh' Tryz.underlying35 (r7.cl rfl) ?_;have k58:Kp [b6,b7] w5 w8:=((hk6.weak (Y:=[b6,b7]) (by simp)).trans hk7 (fun x hx _=>by simp at hx; simp [hx])).tr hk8;refine ⟨rfl,⟨_,fun y hy=>?_,hD _ _ _ _ _ k58 (fun z hz=>?_) hDq⟩,((k04.weak (Y:=Y) (by simp)).trans hk5 (fun x hx hl=>?_)).trans k58 (fun x hx hl=>?_)⟩
  ·simp [hy]
  ·simp only [JJ,JZ,or_false] at hz
   rcases hz with rfl | rfl
   ·exact ⟨by simp,nX _ (by omega)⟩
   ·exact ⟨by simp,nX _ (by omega)⟩
  ·simp only [JJ] at hx
   rcases hx with rfl | hx
   ·omega
   ·exact hx
  ·simp only [JJ,JZ,or_false] at hx
   omega
end
abbrev CxR:=List (List Nd × List Nd)
def typeI (B:BoT) (c:CxR) (t:List Nd) (fuel:Int):Except Int (Tr × Nat):=if bG' B c t ≠ 0 then .error (bG' B c t) else cz' B (cxR c) (tr t) fuel
def checkI (B:BoT) (c:CxR) (t ty:List Nd) (fuel:Int):Except Int (Unit × Nat):=if bG' B c t ≠ 0 then .error (bG' B c t) else if bG' B c ty ≠ 0 then .error (bG' B c ty) else sc' B (cxR c) (tr t) (tr ty) fuel
def sortI (B:BoT) (c:CxR) (t:List Nd) (fuel:Int):Except Int ((Int × List Atom) × Nat):=if bG' B c t ≠ 0 then .error (bG' B c t) else fz' B (cxR c) (tr t) fuel
def whnfI (B:BoT) (c:CxR) (t:List Nd) (fuel:Int):Except Int (Tr × Nat):=if bG' B c t ≠ 0 then .error (bG' B c t) else bh' B (cxR c) (tr t) fuel
theorem qt' (c:CxR):(cxR c).length = c.length:=by simp [cxR]
section
variable {B:BoT} {X:List Nat} {w:World} {c:CxR} {t ty:List Nd}
end
@[irreducible] def GE:Nat:=4096
theorem us':4096 <= GE:=by unfold GE; decide
def nr' (B:BoT) (cx:Ctx) (x:Tr) (fuel:Int):Except Int (List Nd × Nat):=erG B GE cx x (aI' fuel)
def kR' (B:BoT) (c:CxR) (t:List Nd) (fuel:Int):Except Int (List Nd × Nat):=if bG' B c t ≠ 0 then .error (bG' B c t) else nr' B (cxR c) (tr t) fuel
section
variable {B:BoT} {cx:Ctx} {X:List Nat} {w:World}
theorem qu' (hB:GoodB B) (hcx:CxOk B cx) (hcl:cx.length <= 260) {bj n:Nat} {va:Value} (hX:XL X w) (hbj:bj ∈ X) (hJ:EraC (Im X w) w bj B n va) (hn:n <= 100000) {t:Tr} (ht:Ft (QB B) (cx.length:Int) t) {vc v v0:Value} {b1 b2 b3:Nat} {T1 T2:Nat} (hb3:b3 ∈ X) (hne:b3 ≠ bj)
  (h1:Bk w.heap b1 [vc] T1) (h2:Bk w.heap b2 [v] T2) (h3:Bk w.heap b3 [v0] 34) (hc:SV rBd (Im X w) (cx.map bdR) vc) (hv:TmV (Im X w) t v) :
  CC 21 #[pt bj,pt b1,pt b2,pt b3] w (fun e w'=>oj' (erG B GE cx t n) (fun q=>(∃ v,e = .returned v) /\ (∃ u,Bk w'.heap b3 [u] 34 /\ SV rNd (Im X w') q.1 u) /\ (∃ va,EraC (Im X w') w' bj B q.2 va) /\ Kp [bj,b3] w w') (fun er=>e = .panicked (kN' er) /\ Kp [bj] w w')):=by
 refine oF Tryz.func21 ?_;obtain ⟨_,_,rfl,_,_⟩:=id hv;obtain ⟨_,_,rfl,_,_⟩:=id hc;refine cO (args:=[_,_,_,_]) 9 [] τok Tryz.func21 ?_;refine lb h1 ?_;refine lb h2 ?_;have hGE:=us';have hlen:=ht.len;refine ab' (so' hB va GE hX hbj hcx hcl hJ hn ht (by omega) hc hv) ?_;rintro e w1 he;rcases he.cs with ⟨er,hq,rfl,hk1⟩ | ⟨q,u,hq,rfl,hu,hJ1,hk1⟩
 ·rw [hq]
  exact ⟨rfl,hk1⟩
 ·rw [hq]
  have hu':=hu.im hX;refine st (b:=b3) (o:=0) (h3.kp hk1 (by simpa using hne)) (by simp) hu'.one fun w3 h3' hs3 hk3=>?_;have up3:=Im.kb hk3 hb3;exact ⟨⟨_,rfl⟩,⟨u,h3',hu'.mono up3⟩,⟨va,(hJ1.mono up3).kp hk3 (by simpa using Ne.symm hne)⟩,(hk1.weak (Y:=[bj,b3]) (by simp)).trans hk3 fun x hx _=>by simp at hx; simp [hx]⟩
def EraR (X:List Nat) (w:World) (r:Except Int (List Nd × Nat)) (e:Ending) (w':World):Prop :=
 oj' r (fun q=>∃ u,e = .returned (.tuple #[u,iV (q.2:Int),iV 0]) /\ SV rNd (Im X w') q.1 u) (fun er=>e = .returned (.tuple #[.slice none 0 0,iV 0,iV er])) /\ Kp [] w w'
end
section
variable {B:BoT} {X:List Nat} {w:World} {c:CxR} {t:List Nd}
theorem ns' (hX:XL X w) {fuel:Int} {vb vc v:Value} (hb:BoV (Im X w) B vb) (hc:SV rBd (Im X w) c vc) (hv:SV rNd (Im X w) t v) :
  CC 8 #[vb,vc,v,iV fuel] w (EraR X w (kR' B c t fuel)):=by
 refine oF Tryz.func8 ?_;obtain ⟨RES,hRES⟩:∃ r,kR' B c t fuel = r:=⟨_,rfl⟩
 rw [hRES];unfold kR' at hRES;have hbb:=hb;obtain ⟨v1,v2,v3,rfl,_,_,_⟩:=hbb;obtain ⟨av,cv,rfl,_,_⟩:=id hv;obtain ⟨ac,cc,rfl,_,_⟩:=id hc;refine cO (args:=[_,_,_,_]) 32 [.tmp 8,.tmp 9,.tmp 10] τok Tryz.func8 ?_;refine new fun b4 w1 hb4 h4 hs1 hk1=>?_;have h4:Bk w1.heap b4 [iV B.vars,v1,v2,iV B.nat,v3] 26:=h4;refine new fun b5 w2 hb5 h5 hs2 hk2=>?_;have h5:Bk w2.heap b5 [.slice ac c.length cc] 27:=h5;refine new fun b6 w3 hb6 h6 hs3 hk3=>?_;have h6:Bk w3.heap b6 [.slice av t.length cv] 29:=h6;have k13:=hk2.tr hk3;have k03:=hk1.tr k13;have h4:=h4.kp k13 (by simp);have h5:=h5.kp hk3 (by simp);have up3:∀ b o v,Im X w b o v -> Im X w3 b o v:=fun b o v h=>h.tr k03;refine ldN [iV B.vars,v1,v2,iV B.nat,v3] rfl (bZ h4) ?_;refine lb h5 ?_;refine lb h6 ?_;refine ab' (sk' (Im.sub X w3) (fun _ _ _ h=>h.hold) (hb.mono up3) (hc.mono up3) (hv.mono up3)) ?_;rintro e w4 ⟨rfl,hk4⟩;have k04:=k03.tr hk4;refine ac' (fun g1=>?_) (fun g1=>?_)
 ·have g1:bG' B c t ≠ 0:=g1
  rw [if_pos g1] at hRES;subst hRES;exact ⟨rfl,k04⟩
 have g1:¬ bG' B c t ≠ 0:=g1;rw [if_neg g1] at hRES;obtain ⟨hB,hr,hl,hce,hcx,hte,hft⟩:=ju' (Decidable.not_not.1 g1);unfold nr' at hRES;have hnew:w.heap.size <= b4 /\ b4 < b5 /\ b5 < b6 /\ b6 < w4.heap.size:=by
  have:=hk1.size;have:=hk2.size;have:=hk3.size;have:=hk4.size;have:=h6.lt;omega
 refine new fun b12 w5 hb12 h12 hs5 hk5=>?_;have h12:Bk w5.heap b12 [.slice none 0 0] 34:=h12;have k35:=hk4.tr hk5;have k05:=k03.tr k35;have h4:=h4.kp k35 (by simp);have h5:=h5.kp k35 (by simp);have h6:=h6.kp k35 (by simp);refine ldN [iV B.vars,v1,v2,iV B.nat,v3] rfl (bZ h4) ?_;have hX5:∀ b ∈ b12 :: X,b < w5.heap.size:=fun b hb=>by
  rcases List.mem_cons.1 hb with rfl | hb
  ·exact h12.lt
  ·exact KZ (hX b hb) k05.size
 have up:∀ b o v,Im X w b o v -> Im (b12 :: X) w5 b o v:=fun b o v h=>(Im.more (X:=X) (Y:=b12 :: X) (fun y hy=>by
  rcases List.mem_cons.1 hy with rfl | hy
  ·exact .inr (by omega)
  ·exact .inl hy) h).tr k05
 have hcl':=ee' fuel;have hlk:=lW' (B:=B) (X:=b12 :: X) (w:=w5) (fid:=21) (caps:=#[pt b5,pt b6,pt b12]) (fuel:=fuel) (Y:=[b12]) RES (fun X' w' q=>∃ u,Bk w'.heap b12 [u] 34 /\ SV rNd (Im X' w') q u) hX5 (by simp) (hb.mono up)
  (fun X' w2 w3 q Z k hZ h=>by
   obtain ⟨u,h1,h2⟩:=h;exact ⟨u,h1.kp k fun hm=>(hZ _ hm).2 (by simp),h2.mono fun b o v h=>h.kp k fun y hy _=>(hZ y hy).1⟩)
  (fun X' bj w6 k56 hXX hXn hX6 hbj hbjn hJ=>by
   have upc:∀ b o v,Im (b12 :: X) w5 b o v -> Im X' w6 b o v:=fun b o v h=>(Im.more (Y:=X') (fun y hy=>hXn y hy) h).tr k56;rw [<- hRES];exact qu' (cx:=cxR c) (t:=tr t) hB hcx (by rw [qt']; omega) hX6 hbj hJ hcl' (by rw [qt']; exact hft) (hXX b12 (by simp)) (by have:=h12.lt; omega) (h5.kp k56 (by simp)) (h6.kp k56 (by simp)) (h12.kp k56 (by simp)) (by rw [<- hce]; exact hc.mono fun _ _ _ h=>upc _ _ _ (up _ _ _ h)) (by unfold TmV; rw [<- hte]; exact hv.mono fun _ _ _ h=>upc _ _ _ (up _ _ _ h)))
 refine ab' hlk ?_;intro e w6 he;cases RES with
 | error er =>
  obtain ⟨rfl,hk6⟩:=he;refine lb (h12.kp hk6 (by simp)) ?_;exact ⟨rfl,k05.tr hk6⟩
 | ok q =>
  obtain ⟨rfl,⟨X',hX',u,hu1,hu2⟩,hk6⟩:=he;have o1:=hu2.one;refine lb hu1 ?_;exact ⟨⟨u,rfl,hu2.mono fun b o v h=>h.less fun y hy=>hX' y (by simp [hy])⟩,k05.trans hk6 fun x hx hl=>by
   simp only [JJ,JZ,or_false] at hx;omega⟩
end
def keptG (B:BoT):Ctx -> List Tr -> Nat -> Except Int (List Bool × Nat)
 | _,[],n=>.ok ([],n)
 | cx,a :: r,n=>bdJ (nV' B cx a n) fun b n=>bdJ (keptG B (cx ++ [(a,none)]) r n) fun l n=>.ok ((!b) :: l,n)
def kS' (B:BoT) (a b:Int) (n:Nat):Except Int (List Bool × Nat):=keptG B (dz' (psM B a)) (agM B a b) n
theorem go' {B:BoT} (hB:GoodB B):∀ (l:List Tr) (cx:Ctx) (n:Nat) q,keptG B cx l n = .ok q -> q.1.length = l.length /\ q.2 <= n
 | [],cx,n,q,h=>by
  simp only [keptG] at h;injection h with h
  subst h;exact ⟨rfl,KJ _⟩
 | a :: r,cx,n,q,h=>by
  simp only [keptG] at h;obtain ⟨p,hp,h⟩:=ak' h;obtain ⟨p2,hp2,h⟩:=ak' h;injection h with h
  subst h;have h1:=jA' hB hp;obtain ⟨h2,h3⟩:=go' hB r _ _ _ hp2;exact ⟨by simp [h2],by simp only; omega⟩
section
variable {B:BoT} {X:List Nat} {w:World} {be:Nat} {n:Nat} {va:Value}
theorem ut' (hX:XL X w) {ps:List Tr} (hlp:ps.length <= 16) {v:Value} (hv:TmsV (Im X w) ps v) :
  CC 83 #[v] w (fun e w'=>(∃ u,e = .returned u /\ SV rBd (Im X w') ((dz' ps).map bdR) u) /\ Kp [] w w'):=by
 refine oF Tryz.func83 ?_;obtain ⟨ap,cp,rfl,_,_⟩:=id hv;refine cO (args:=[_]) 19 [.tmp 2] τok Tryz.func83 ?_;refine lp τok (σ:=Nat × Value) (fun q=>[(3,q.2),(6,.slice ap ps.length cp),(7,iV (ps.length:Int)),(8,iV (q.1:Int))])
  (fun q w'=>q.1 <= ps.length /\ SV rBd (Im X w') ((dz' (ps.take q.1)).map bdR) q.2 /\ Kp [] w w') (fun q=>ps.length - q.1) (0,.slice none 0 0) rfl
  ⟨rfl,rfl,rfl,rfl,trivial⟩ ⟨KV _,SV.nil _ _,Kp.refl _ _⟩ ?_
 rintro ⟨j,vv⟩ w3 ⟨hj,hV3,k03⟩;simp only at hj hV3;obtain ⟨avv,cvv,rfl,_,_⟩:=id hV3;have hX3:=xU hX k03;have tr3:∀ b o v,Im X w b o v -> Im X w3 b o v:=fun b o v h=>h.tr k03;refine ac' (fun g3=>?_) (fun g3=>?_)
 ·have g3:(j:Int) < (ps.length:Int):=g3
  obtain ⟨p,hp,_⟩:=af' (l:=ps) (k:=j) (by omega);obtain ⟨bq,oq,cq,pq,zp,hzp,hzpT⟩:=(hv.mono tr3).get hp;injection pq with q1 q2 q3
  subst q1 q3;obtain ⟨azp,czp,rfl,_,_⟩:=id hzpT;refine ix j rfl (by omega) ?_;refine ld (Im.sub X w3 _ _ _ hzp).cell ?_;refine fill [.slice azp (row p).length czp,.slice none 0 0] rfl ?_;refine new fun b4 w4 hb4 h4 hs4 hk4=>?_;have hX4:=xU hX3 hk4;have hb4X:b4 ∉ X:=fun hm=>by
   have h1:=hX3 _ hm;omega
  refine ab' (cA' (t:=p) (o:=none) hX4 (hV3.mono fun _ _ _ h=>h.tr hk4) (by rw [ed']; simp; omega) h4 hb4X (hzpT.mono fun _ _ _ h=>h.tr hk4) (SV.nil _ _)) ?_;rintro e w5 ⟨⟨v5,rfl,hv5⟩,hk5⟩;have o5:=hv5.one;refine i6 ?_;refine ⟨(j + 1,v5),by simp only; omega,rfl,⟨rfl,rfl,rfl,rfl,trivial⟩,by show j + 1 <= _; omega,?_,(k03.tr hk4).tr hk5⟩;simp only;rw [aj' hp,bn'];exact hv5
 have g3:¬ (j:Int) < (ps.length:Int):=g3;obtain rfl:j = ps.length:=by omega
 rw [JG (KJ _)] at hV3 ⊢;exact ⟨⟨_,rfl,hV3⟩,k03⟩
structure KpS where
 j:Nat
 m:Nat
 acc:List Bool
 v:Value
 vs:Value
theorem qv' (hB:GoodB B) (hX:XL X w) (hbe:be ∈ X) (hJ:EraC (Im X w) w be B n va) (hn:n <= 100000) {a b:Int} (ha:dy' B B.ents.length a = true) (hb0:0 <= b) (hb:b < (bm' B a).ctors.length) :
  CC 49 #[pt be,iV a,iV b] w (ErP (fun w' l u=>SV qY' (New w.heap.size w') l u) X w be B va (kS' B a b n)):=by
 refine oF Tryz.func49 ?_;obtain ⟨i,x,s,ps,qi,rfl,_,hi,hxD,hF⟩:=hB.fam ha (KJ _);obtain ⟨bn,rfl⟩:∃ k:Nat,b = (k:Int):=⟨b.toNat,by omega⟩
 obtain ⟨e1,e2,e3⟩:=hF.ps_eq hi;rw [hxD] at hb;obtain ⟨c,hc,_⟩:=af' (l:=x.ctors) (k:=bn) (by omega);obtain ⟨ga,go,hC⟩:=hF.ct bn c hc;obtain ⟨e4,e5,e6⟩:=hC.ag_eq hi hc;obtain ⟨RES,hRES⟩:∃ r,kS' B (i:Int) (bn:Int) n = r:=⟨_,rfl⟩
 rw [hRES];unfold kS' at hRES;rw [e1,e4] at hRES;have hlp:=hF.lp;have hlc:=hF.lc;have hla:=hC.la;have hJ0:=hJ;obtain ⟨v1,v2,v3,hJb,hO,hE,hP⟩:=hJ;obtain ⟨bE,oE,cE,rfl,hat⟩:=hE.at hi;obtain ⟨w1e,w2e,w3e,w4e,w5e,w6e,hcs,hki,hso,hpa,hin,hct,hty,hbo⟩:=cW' hat;rw [hF.params] at hpa;have hpa:=TmsV.sv.2 hpa;have hone:∀ v ∈ [iV x.kind,w1e,w2e,w3e,w4e,w5e,w6e],v.oneCell' = true:=fun v hv=>by
  simp at hv;rcases hv with rfl | rfl | rfl | rfl | rfl | rfl | rfl
  ·rfl
  ·exact hso.one
  ·exact (TmsV.sv.1 hpa).one
  ·exact hin.one
  ·exact hct.one
  ·exact hty.one
  ·exact hbo.one
 obtain ⟨ap,cp,rfl,_,_⟩:=id hpa;obtain ⟨ac,cc,rfl,_,_⟩:=id hct;refine cO (args:=[_,_,_]) 50 [.tmp 6] τok Tryz.func49 ?_;refine lb hJb ?_;refine ix i rfl (ai' hi) ?_;refine ldN _ rfl (fun j v hj=>(hcs j v hj).1) ?_;refine new fun b5 w1 hb5 h5 hs1 hk1=>?_;refine stN (vs:=[iV x.kind,w1e,.slice ap ps.length cp,w3e,.slice ac x.ctors.length cc,w5e,w6e]) h5 rfl hone fun w2 h5 hs2 hk2=>?_;have k02:=hk1.newSt hb5 hk2;have hne:b5 ≠ be:=by have:=hX be hbe; omega
 have tr2:∀ b o v,Im X w b o v -> Im X w2 b o v:=fun b o v h=>h.tr k02;have hX2:=xU hX k02;have h5:Bk w2.heap b5 [iV x.kind,w1e,.slice ap ps.length cp,w3e,.slice ac x.ctors.length cc,w5e,w6e] 72:=h5;refine lb h5 ?_;refine ab' (ut' hX2 hlp (hpa.mono tr2)) ?_;rintro e w3 ⟨⟨v3',rfl,hV3⟩,hk3⟩;obtain ⟨avv,cvv,rfl,_,_⟩:=id hV3;refine fill [] rfl ?_;refine new fun b9 w4 hb9 h9 hs4 hk4=>?_;have k24:=hk3.tr hk4;have k04:=k02.tr k24;have tr4:∀ b o v,Im X w b o v -> Im X w4 b o v:=fun b o v h=>h.tr k04;have hX4:=xU hX k04;have h5:=h5.kp k24 (by simp);refine lb h5 ?_;obtain ⟨bc,oc,cc',pc,hca⟩:=hct.at hc;obtain ⟨va',vo,hccs,hva,hvo⟩:=gb' hca;rw [hC.args] at hva;have hva:=TmsV.sv.2 hva;obtain ⟨aa,ca,rfl,_,_⟩:=id hva;injection pc with q1 q2 q3
 subst q1 q3;refine ix bn rfl (ai' hc) ?_;refine ld (Cl.cell (tr4 _ _ _ (hccs 0 _ rfl)).1) ?_;have hpsF:∀ (k:Nat) y,ps[k]? = some y -> Ft (QB B) (k:Int) y:=fun k y hy=>hF.up_p hB hi hy;have hO9:Own qY' 4 w3.heap.size w4 (.slice (some ⟨b9,0,none⟩) 0 0) []:=Own.empty qY' h9 (by omega);have hX3:=xU hX2 hk3;have hbe3:=hX3 be hbe;have k03:=k02.tr hk3;have hZ0:∀ b o v,Im X w3 b o v -> Im ([b9] ++ X) w4 b o v:=fun b o v h=>(Im.more (Y:=[b9] ++ X) (fun y hy=>by
  rcases List.mem_append.1 hy with hy | hy
  ·exact .inr (by simp at hy; omega)
  ·exact .inl hy) h).tr hk4
 refine lp τok (σ:=KpS) (fun q=>[(0,pt be),(8,q.vs),(9,q.v),(29,.slice aa ga.length ca),(30,iV (ga.length:Int)),(31,iV (q.j:Int))])
  (fun q w'=>q.j <= ga.length /\ q.m <= n /\ q.acc.length = q.j /\ SV rBd (Im (q.v.ownBlock.toList ++ X) w') ((dz' (ps ++ ga.take q.j)).map bdR) q.vs /\ EraC (Im (q.v.ownBlock.toList ++ X) w') w' be B q.m va /\ Own qY' 4 w3.heap.size w' q.v q.acc /\ Kp [be] w3 w' /\ bdJ (keptG B (dz' (ps ++ ga.take q.j)) (ga.drop q.j) q.m) (fun l n=>.ok (q.acc ++ l,n)) = RES) (fun q=>ga.length - q.j) ⟨0,n,[],.slice (some ⟨b9,0,none⟩) 0 0,.slice avv ((dz' ps).map bdR).length cvv⟩ rfl
  ⟨rfl,rfl,rfl,rfl,rfl,rfl,trivial⟩ ⟨KV _,KJ _,rfl,by simp only [List.take_zero,JD]; exact hV3.mono hZ0,(hJ0.mono fun b o v h=>hZ0 b o v (h.tr k03)).kp k04 (by simp),hO9,hk4.weak (by simp),?_⟩ ?_
 ·show bdJ (keptG B (dz' (ps ++ ga.take 0)) (ga.drop 0) n) _ = RES
  rw [<- hRES];simp only [List.take_zero,List.drop_zero,JD,List.nil_append];cases keptG B (dz' ps) ga n <;> rfl
 clear hRES hV3 hO9
 rintro ⟨j,m,acc,va1,vv⟩ w5 ⟨hj,hm,hal,hV5,hJ5,hO5,k35,hres⟩;simp only at hj hm hal hV5 hJ5 hO5 hres;have kw5:Kp [be] w w5:=(k03.weak (by simp)).tq k35;have hX5:=xU hX kw5;have hblk:=hO5.block;have hblk1:∀ q,va1.ownBlock = some q -> w3.heap.size <= q:=fun q hq=>(hblk q hq).1;obtain ⟨Z,hZ⟩:∃ Z,Z = va1.ownBlock.toList ++ X:=⟨_,rfl⟩
 have hbeZ:be ∈ Z:=by rw [hZ]; exact List.mem_append_right _ hbe
 have hZX:∀ b ∈ X,b ∈ Z:=fun b hb=>by rw [hZ]; exact List.mem_append_right _ hb
 have hZ5:XL Z w5:=fun b hb=>by
  rw [hZ] at hb;rcases List.mem_append.1 hb with hb | hb
  ·exact (hblk b (by simpa using hb)).2
  ·exact hX5 b hb
 have up35:∀ b o v,Im X w3 b o v -> Im Z w5 b o v:=by rw [hZ]; exact Im.old k35 hbe hblk1
 rw [<- hZ] at hJ5 hV5;obtain ⟨avv2,cvv2,rfl,_,_⟩:=id hV5;refine ac' (fun g4=>?_) (fun g4=>?_)
 ·have g4:(j:Int) < (ga.length:Int):=g4
  obtain ⟨p,hp,hd⟩:=af' (l:=ga) (k:=j) (by omega);rw [hd] at hres;simp only [keptG] at hres;obtain ⟨bq,oq,cq,pq,zp,hzp,hzpT⟩:=((hva.mono fun b o v h=>Im.tr k03 h).mono up35).get hp;injection pq with q1 q2 q3
  subst q1 q3;obtain ⟨azp,czp,rfl,_,_⟩:=id hzpT;have hlen:(dz' (ps ++ ga.take j)).length = ps.length + j:=by rw [ed']; simp; omega
  have hpF:Ft (QB B) ((dz' (ps ++ ga.take j)).length:Int) p:=by rw [hlen]; exact hC.up_a hi hF.kind hp
  have hcx:CxOk B (dz' (ps ++ ga.take j)):=gZ' fun k y hy=>by
   by_cases hk:k < ps.length
   ·rw [List.getElem?_append_left hk] at hy
    exact hpsF k y hy
   ·rw [List.getElem?_append_right (by omega)] at hy
    have hlt:=ai' hy;rw [List.getElem?_take] at hy;split at hy
    ·have:=hC.up_a hi hF.kind hy
     exact this.mono (by omega)
    ·cases hy
  refine ix j rfl (by omega) ?_;refine ld (Im.sub Z w5 _ _ _ hzp).cell ?_;refine ab' (qo' hB hcx (by omega) hZ5 hbeZ hJ5 (by omega) hpF hV5 hzpT) ?_;rintro e w6 he;rcases he.cs with ⟨er,hz,rfl,hk6⟩ | ⟨⟨bo,m6⟩,u,hz,rfl,hu,hJ6,hk6⟩
  ·rw [hz] at hres
   obtain rfl:.error er = RES:=hres;exact ⟨rfl,kw5.tq hk6⟩
  have hm6:=jA' hB hz;rw [hz] at hres;simp only at hJ6 hm6;have hu:u = .bool bo:=hu;subst hu;have up6:=Im.kb hk6 hbeZ;refine fill [.bool (!bo)] rfl ?_;refine new fun b7 w7 hb7 h7 hs7 hk7=>?_;have k57:Kp [be] w5 w7:=hk6.tr hk7;have hO7:=hO5.kpl k57 (by simp; omega);refine hO7.ap1 τok rfl rfl (by decide) (!bo) [.bool (!bo)] rfl (bZ h7) (by omega) (by unfold maxLen; omega) fun v8 w8 hO8 hk8 hv8=>?_;have hlo:∀ q ∈ va1.ownBlock.toList,w3.heap.size <= q:=fun q hq=>hblk1 q (by simpa using hq);have k38:Kp [be] w3 w8:=(k35.tq k57).ownX hk8 hO7;have hJ7:EraC (Im Z w7) w7 be B m6 va:=(hJ6.mono fun b o v h=>h.tr hk7).kp hk7 (by simp);have trZ7:∀ b o v,Im Z w5 b o v -> Im Z w7 b o v:=fun b o v h=>(up6 _ _ _ h).tr hk7;have upZ8:∀ b o v,Im Z w7 b o v -> Im (v8.ownBlock.toList ++ X) w8 b o v:=by rw [hZ]; exact Im.own hk8 hv8
  have hJ8:EraC (Im (v8.ownBlock.toList ++ X) w8) w8 be B m6 va:=(hJ7.mono upZ8).kp hk8 fun hb=>by have:=hlo be hb; omega
  obtain ⟨Y,hY⟩:∃ Y,Y = v8.ownBlock.toList ++ X:=⟨_,rfl⟩
  have hblk8:=hO8.block;have hX8:=xU hX3 k38;have hY8:XL Y w8:=fun b hb=>by
   rw [hY] at hb;rcases List.mem_append.1 hb with hb | hb
   ·exact (hblk8 b (by simpa using hb)).2
   ·exact hX8 b hb
  rw [<- hY] at hJ8 upZ8;have hV8:=(hV5.mono trZ7).mono upZ8;have hp8:=(hzpT.mono trZ7).mono upZ8;refine fill [.slice azp (row p).length czp,.slice none 0 0] rfl ?_;refine new fun bz wa hbz hza hsa hka=>?_;have hYa:=xU hY8 hka;have hbzY:bz ∉ Y:=fun hm=>by
   have h1:=hY8 _ hm;omega
  refine ab' (cA' (t:=p) (o:=none) hYa (hV8.mono fun _ _ _ h=>h.tr hka) (by omega) hza hbzY (hp8.mono fun _ _ _ h=>h.tr hka) (SV.nil _ _)) ?_;rintro e wb ⟨⟨vb,rfl,hvb⟩,hkb⟩;have ob:=hvb.one;have k8b:=hka.tr hkb;refine i6 ?_;refine ⟨⟨j + 1,m6,acc ++ [!bo],v8,vb⟩,by simp only; omega,rfl,⟨rfl,rfl,rfl,rfl,rfl,rfl,trivial⟩,by show j + 1 <= _; omega,by simp only; omega,by simp [hal],?_,?_,hO8.kp k8b,k38.tr k8b,?_⟩
  ·show SV rBd (Im (v8.ownBlock.toList ++ X) wb) ((dz' (ps ++ ga.take (j + 1))).map bdR) vb
   rw [aj' hp,<- List.append_assoc,bn',<- hY];exact hvb
  ·show EraC (Im (v8.ownBlock.toList ++ X) wb) wb be B m6 va
   rw [<- hY];exact (hJ8.mono fun b o v h=>h.tr k8b).kp k8b (by simp)
  ·show bdJ (keptG B (dz' (ps ++ ga.take (j + 1))) (ga.drop (j + 1)) m6) _ = RES
   rw [aj' hp,<- List.append_assoc,bn'];cases hq2:keptG B (dz' (ps ++ ga.take j) ++ [(p,none)]) (ga.drop (j + 1)) m6 with
   | error er =>
    simp only [bdJ,hq2] at hres ⊢;exact hres
   | ok q =>
    simp only [bdJ,hq2] at hres ⊢;rw [<- hres];simp
 have g4:¬ (j:Int) < (ga.length:Int):=g4;obtain rfl:j = ga.length:=by omega
 rw [JY (KJ _)] at hres;simp only [keptG,bdJ,JD] at hres;subst hres;obtain ⟨ad,cd,hvd,hcd⟩:=hO5.cap;obtain ⟨ad',cd',hvd',hsd⟩:=hO5.den (by omega);rw [hvd] at hvd';injection hvd' with q1 q2 q3
 subst q1 q3;subst hvd;exact ⟨⟨_,rfl,⟨ad,cd,rfl,hsd.mono fun b o v h=>⟨KQ k03.size h.1,h.2⟩,hcd⟩,hJ5.mono fun b o v h=>h.less hZX⟩,kw5⟩
end
end Go.Proofs.YtmlnlmkmpgkekaaGreat
namespace Cd
open Go Go.Wx
def fA' (n:Nat):List Nat:=if h:n < 128 then [n] else (n % 128 + 128) :: fA' (n / 128)
termination_by n
decreasing_by omega
theorem ey' {n:Nat} (h:n < 128):fA' n = [n]:=by rw [fA',dif_pos h]
theorem kT' {n:Nat} (h:¬ n < 128):fA' n = (n % 128 + 128) :: fA' (n / 128):=by rw [fA',dif_neg h]
theorem qw' {k:Nat}:∀ {n:Nat},n < 128 ^ (k + 1) -> (fA' n).length <= k + 1:=by
 induction k with
 | zero=>intro n h; rw [ey' (by simpa using h)]; simp
 | succ k ih =>
  intro n h
  by_cases hs:n < 128
  ·rw [ey' hs]; simp
  ·rw [kT' hs]
   have:n / 128 < 128 ^ (k + 1):=by
    rw [Nat.div_lt_iff_lt_mul (by omega),<- Nat.pow_succ];exact h
   have:=ih this;simp; omega
theorem lX' {n:Nat} (h:n < 18446744073709551616):(fA' n).length <= 10:=qw' (k:=9) (by omega)
def aW' (xs:List Int):List Nat:=xs.flatMap fun x=>fA' x.toNat
end Cd
namespace Go.Wx
structure Gw (w:World) (v:Value) (w':World) (v':Value):Prop where
 kp:Kp v.ownBlock.toList w w'
 blk:∀ g,v'.ownBlock = some g -> v.ownBlock = some g \/ w.heap.size <= g
theorem Gw.refl (w:World) (v:Value):Gw w v w v:=⟨(Kp.refl [] w).weak (by simp),fun g h=>.inl h⟩
theorem Gw.trans {w w' w'':World} {v v' v'':Value} (h:Gw w v w' v') (k:Gw w' v' w'' v''):Gw w v w'' v'':=by
 refine ⟨h.kp.trans k.kp fun x hx hl=>?_,fun g hg=>?_⟩
 ·have hx:v'.ownBlock = some x:=by simpa using hx
  rcases h.blk x hx with e | e
  ·simpa using e
  ·omega
 ·rcases k.blk g hg with e | e
  ·exact h.blk g e
  ·exact .inr (KQ h.kp.size e)
theorem Gw.of {w w1 w2:World} {v v':Value} (k1:Kp [] w w1) (k2:Kp v.ownBlock.toList w1 w2) (hb:v'.ownBlock = v.ownBlock \/ v'.ownBlock = some w1.heap.size):Gw w v w2 v':=by
 refine ⟨(k1.weak (by simp)).trans k2 (fun x hx _=>hx),fun g hg=>?_⟩;rcases hb with e | e
 ·exact .inl (by rw [<- e]; exact hg)
 ·rw [e] at hg
  have:=JB hg;have:=k1.size;exact .inr (by omega)
end Go.Wx
namespace Go.Proofs.YtmlnlmkmpgkekaaGreat
open Go.Wx Cd
theorem wF':∀ x:Nat,x < 256 -> x ||| 128 = x % 128 + 128:=by decide +kernel
theorem uu' {lo:Nat} {w:World} {v:Value} {l:List Nat} (h:Own rU8 5 lo w v l) (n:Nat) (hn:n < 18446744073709551616) (hl:l.length <= 549755813888) :
  CC 137 #[v,.int .u64 (n:Int)] w (fun e w'=>∃ v',e = .returned v' /\ Own rU8 5 lo w' v' (l ++ fA' n) /\ Gw w v w' v'):=by
 refine oF Tryz.func137 ?_;refine cO (args:=[_,_]) 20 [.tmp 4] τok Tryz.func137 ?_;have hfl:=lX' hn;refine lp τok (σ:=Value × Nat × List Nat) (fun q=>[(0,q.1),(1,.int .u64 (q.2.1:Int))])
  (fun q w'=>q.2.1 <= n /\ Own rU8 5 lo w' q.1 q.2.2 /\ q.2.2 ++ fA' q.2.1 = l ++ fA' n /\ Gw w v w' q.1) (fun q=>q.2.1) (v,n,l) rfl ⟨rfl,rfl,trivial⟩ ⟨KJ _,h,rfl,Gw.refl _ _⟩ ?_
 rintro ⟨u,m,r⟩ w1 ⟨hm,hO,hr,hg⟩;simp only at hm hO hr hg;have hrl:r.length <= 549755813888 + 10:=by
  have:=congrArg List.length hr;simp only [JK] at this;omega
 refine ac' (fun h1=>?_) (fun h1=>?_)
 ·have h1:(128:Int) <= (m:Int):=h1
  have h1:¬ m < 128:=by omega
  refine uG' ((m % 256:Nat):Int) (by rw [sF']; simp) ?_;refine or8 (x:=m % 256) (y:=128) (m % 128 + 128) (by omega) (by omega) (by rw [wF' _ (by omega)]; omega) ?_;refine fill [.int .u8 ((m % 128 + 128:Nat):Int)] rfl ?_;refine new fun b2 w2 hb2 hB2 hs2 hk2=>?_;refine (hO.kp hk2).ap1 τok rfl rfl Nat.one_pos (m % 128 + 128) [.int .u8 ((m % 128 + 128:Nat):Int)] ⟨rfl,by omega⟩ (bZ hB2) (by omega) (by simp only [maxLen]; omega) fun u' w3 hO3 hk3 hb3=>?_;refine uQ' (x:=m) (n:=7) (m / 128) (by omega) rfl ?_;refine ⟨(u',m / 128,r ++ [m % 128 + 128]),by simp only; omega,rfl,⟨rfl,rfl,trivial⟩,by simp only; omega,hO3,?_,hg.trans (Gw.of hk2 hk3 hb3)⟩;simp only;rw [<- hr,kT' h1];simp
 ·have h1:¬ (128:Int) <= (m:Int):=h1
  have h1:m < 128:=by omega
  refine uG' ((m:Nat):Int) (by rw [sF']; simp only; omega) ?_;refine fill [.int .u8 ((m:Nat):Int)] rfl ?_;refine new fun b2 w2 hb2 hB2 hs2 hk2=>?_;refine (hO.kp hk2).ap1 τok rfl rfl Nat.one_pos m [.int .u8 ((m:Nat):Int)] ⟨rfl,by omega⟩ (bZ hB2) (by omega) (by simp only [maxLen]; omega) fun u' w3 hO3 hk3 hb3=>?_;refine ⟨u',rfl,?_,hg.trans (Gw.of hk2 hk3 hb3)⟩;rw [ey' h1] at hr;rw [<- hr];exact hO3
theorem sq' {C:Mem} {w:World} (hS:Sub C w) (l:List Nat) (a:Option Addr) (cap:Nat) (hl:Sl rU8 C a l) (hll:l.length <= 549755813888) :
  CC 136 #[.slice a l.length cap] w (fun e w'=>∃ v,e = .returned v /\ Own rU8 5 w.heap.size w' v l /\ Kp [] w w'):=by
 refine oF Tryz.func136 ?_;refine cO (args:=[_]) 8 [.tmp 2] τok Tryz.func136 ?_;refine nz' τok rfl ?_;refine br (fun h1=>?_) (fun h1=>?_)
 ·have ha:a = none:=by cases a <;> simp_all
  have hnil:l = []:=by
   rcases hl.2 with h0 | ⟨b,o,e,_⟩
   ·exact List.length_eq_zero_iff.1 h0
   ·rw [ha] at e; cases e
  subst hnil;exact ⟨_,rfl,Own.nil _ _ (KJ _),Kp.refl _ _⟩
 refine fill [] rfl ?_;refine new fun b1 w1 hb1 hB1 hs1 hk1=>?_;have hO:Own rU8 5 w.heap.size w1 (.slice (some ⟨b1,0,none⟩) 0 0) []:=Own.empty rU8 hB1 (by omega);have hS1:=hS.tr hk1;refine hO.ap τok rfl rfl Nat.one_pos l (l.map fun x:Nat=>[Value.int .u8 (x:Int)]) rfl ?_ ?_ (by simp; omega) (by simp [maxLen]; omega) fun v' w2 hO2 hk2 _=>?_
 ·have hbyte:∀ x ∈ l,x < 256:=fun x hx=>by
   obtain ⟨i,hi⟩:=JH hx;obtain ⟨_,_,_,_,h⟩:=hl.u8 hi;exact h
  clear hl hll
  induction l with
  | nil=>trivial
  | cons x r ih=>exact ⟨⟨rfl,hbyte x (by simp)⟩,ih (fun y hy=>hbyte y (by simp [hy]))⟩
 ·rcases hl.2 with h0 | ⟨b,o,ha,hc⟩
  ·exact .inl h0
  ·refine .inr ⟨b,o,ha,fun i x j u hi hj=>?_⟩
   rw [JX] at hi;cases hy:l[i]? with
   | none=>rw [hy] at hi; cases hi
   | some y =>
    rw [hy] at hi;have hi:[Value.int .u8 (y:Int)] = x:=by simpa using hi
    subst hi;obtain ⟨cs,⟨rfl,_⟩,h2⟩:=hc i y hy;exact hS1 _ _ _ (h2 j u hj)
 ·refine ⟨v',rfl,by simpa using hO2,hk1.trans hk2 fun x hx hl=>?_⟩
  have hx:x = b1:=by simpa [Value.ownBlock,eq_comm] using hx
  omega
theorem vM' {C D:Mem} {w:World} (hS:Sub C w) (hD:Sub D w) (l:List Nat) (xs:List Int) (a ax:Option Addr) (cap cx:Nat) (hl:Sl rU8 C a l) (hx:Sl rInt D ax xs) (hpos:∀ x ∈ xs,0 <= x) (hll:(l ++ aW' xs).length <= 549755813888) :
  CC 82 #[.slice a l.length cap,.slice ax xs.length cx] w (fun e w'=>∃ v,e = .returned (.tuple #[v,iV 0]) /\ Own rU8 5 w.heap.size w' v (l ++ aW' xs) /\ Kp [] w w'):=by
 refine oF Tryz.func82 ?_;have hxl:=hx.1;simp only [JK] at hll;refine cO (args:=[_,_]) 25 [.tmp 4,.tmp 5] τok Tryz.func82 ?_;refine ab' (sq' hS l a cap hl (by omega)) ?_;rintro e w1 ⟨v,rfl,hO,hk1⟩;refine lp τok (σ:=Nat × Value) (fun q=>[(6,q.2),(11,.slice ax xs.length cx),(12,iV xs.length),(13,iV q.1)])
  (fun q w'=>q.1 <= xs.length /\ Own rU8 5 w.heap.size w' q.2 (l ++ aW' (xs.take q.1)) /\ Kp [] w w') (fun q=>xs.length - q.1) (0,v) rfl ⟨rfl,rfl,rfl,rfl,trivial⟩ ⟨KV _,by simpa [aW'] using hO,hk1⟩ ?_
 rintro ⟨k,u⟩ w2 ⟨hk,hO2,hkp⟩;simp only at hk hO2;refine ac' (fun h1=>?_) (fun h1=>?_)
 ·have hlt:k < xs.length:=by omega
  obtain ⟨x,hxk,hd⟩:=af' hlt;obtain ⟨b,o,rfl,hcell,h64⟩:=hx.int hxk;have hD2:=hD.tr hkp;have hx0:=hpos x (JQ hxk);unfold Go.Wx.I64 at h64;refine ix k rfl hlt ?_
  (repeat first | refine ldC ‹Sub _ _› (by assumption) ?_ | refine ld (Cl.cell (by first | assumption | exact Bk.cl (by assumption) rfl)) ?_ | refine ldK (by first | assumption | exact Bk.cl (by assumption) rfl | exact ‹Sub _ _› _ _ _ (by assumption)) ?_)
  refine ac' (fun h2=>?_) (fun h2=>?_)
  ·omega
  refine u64n x.toNat (by omega) (by omega) ?_;have htl:(aW' (xs.take k)).length <= (aW' xs).length:=by
   have:aW' xs = aW' (xs.take k) ++ aW' (xs.drop k):=by
    unfold aW';rw [<- List.flatMap_append,List.take_append_drop]
   rw [this,JK];omega
  refine ab' (uu' hO2 x.toNat (by omega) (by rw [JK]; omega)) ?_;rintro e w3 ⟨u',rfl,hO3,hg3⟩;refine i6 ?_;refine ⟨(k + 1,u'),by simp only; omega,rfl,⟨rfl,rfl,rfl,rfl,trivial⟩,hlt,?_,hkp.own hg3.kp hO2⟩;have:aW' (xs.take (k + 1)) = aW' (xs.take k) ++ fA' x.toNat:=by
   rw [aj' hxk];simp [aW']
  simp only;rw [this,<- List.append_assoc];exact hO3
 ·rw [JG (by omega)] at hO2
  exact ⟨u,rfl,hO2,hkp⟩
end Go.Proofs.YtmlnlmkmpgkekaaGreat
namespace Vm
def BB:Nat:=4294967296
theorem kU':2 <= BB:=by decide
end Vm
namespace Go.Proofs.YtmlnlmkmpgkekaaGreat
open Go.Wx Nm Vm
abbrev rW:Rd Nat:=uR' .u32 BB
def uv' (n:Nat) (w w':World) (v:Value):Prop:=∃ a c,v = .slice a (hT' BB n).length c /\ Sl rW (New w.heap.size w') a (hT' BB n) /\ (hT' BB n).length <= c
section
variable {C:Mem} {w:World}
theorem uw' (hS:Sub C w) (l:List Nat) (a:Option Addr) (c:Nat) (hl:Sl rW C a l) (hlen:l.length <= 1000000) :
  CC 135 #[.slice a l.length c] w (fun e w'=>(∃ v,e = .returned v /\ uv' (val BB l) w w' v) /\ Kp [] w w'):=by
 refine oF Tryz.func135 ?_;have hd:Dig BB l:=hl.dig;refine cO (args:=[_]) 25 [.tmp 2] τok Tryz.func135 ?_;refine lp τok (σ:=Nat) (fun n=>[(0,.slice a l.length c),(3,iV n)]) (fun n w'=>n <= l.length /\ cut (l.take n) = cut l /\ w' = w) (fun n=>n) l.length rfl ⟨rfl,rfl,trivial⟩ ⟨KJ _,by rw [List.take_length],rfl⟩ ?_;rintro n w1 ⟨hn,hcut,rfl⟩;have fin:∀ n:Nat,n <= l.length -> cut (l.take n) = cut l -> (n = 0 \/ ∃ x,l[n - 1]? = some x /\ x ≠ 0) -> n = (hT' BB (val BB l)).length /\ l.take n = hT' BB (val BB l):=fun n hn hcut h=>by
  have e:l.take n = hT' BB (val BB l):=by
   rw [mp' kU' hd,<- hcut];rcases h with rfl | ⟨x,hx,h0⟩
   ·simp [iM']
   ·have hn0:0 < n:=by
     rcases Nat.eq_zero_or_pos n with h | h
     ·subst h
      rw [List.take_zero] at hcut;rw [<- mp' kU' hd] at hcut;have hz:=(jS' kU').1 (hcut.symm.trans iM');exact absurd (mo' (by decide) hz x (JQ hx)) h0
     ·exact h
    have e1:l.take n = l.take (n - 1) ++ [x]:=by
     have:=aj' hx
     rwa [show n - 1 + 1 = n by omega] at this
    rw [e1,hG' _ h0]
  exact ⟨by rw [<- e,List.length_take]; omega,e⟩
 refine ac' (fun h=>?_) (fun h=>?_)
 ·obtain ⟨x,hx,_⟩:=af' (l:=l) (k:=n - 1) (by omega)
  obtain ⟨b,o,rfl,hc,hxB⟩:=hl.nat hx;refine i6 ?_;refine ix (n - 1) (by omega) (by omega) ?_;refine ldC hS hc ?_;refine ac' (fun h0=>?_) (fun h0=>?_)
  ·have h0:x = 0:=by omega
   subst h0;refine i6 ?_;refine ⟨n - 1,by omega,rfl,⟨rfl,?_,trivial⟩,by omega,?_,rfl⟩
   ·show some (iV ((n:Int) - 1)) = some (iV ((n - 1:Nat):Int))
    rw [show ((n - 1:Nat):Int) = (n:Int) - 1 by omega]
   ·rw [<- hcut]
    have:=aj' hx;rw [show n - 1 + 1 = n by omega] at this;rw [this,gu']
  ·have hf:=fin n hn hcut (.inr ⟨x,hx,by omega⟩)
   refine mk τok (z:=[.int .u32 0]) rfl rfl n rfl (by decide) (by omega) (by omega) fun b2 w2 hb hB hs hk=>?_;refine uS' τok rfl l (RowN.rep hB) (by simp) (hS.tr hk) hl rfl fun w3 hR hs3 hk3=>?_;refine ⟨⟨_,rfl,some ⟨b2,0,none⟩,n,(by show Value.slice (some ⟨b2,0,none⟩) n n = _; rw [<- hf.1]),?_,by omega⟩,hk.newSt hb hk3⟩;have e:l.take (List.replicate n 0).length ++ (List.replicate n 0).drop l.length = hT' BB (val BB l):=by
    rw [List.length_replicate,List.drop_of_length_le (by simp; omega),JD];exact hf.2
   rw [e] at hR;exact hR.sl (mn' kU' _) (by omega) (by omega)
 ·have hf:=fin n hn hcut (.inl (by omega))
  refine mk τok (z:=[.int .u32 0]) rfl rfl n rfl (by decide) (by omega) (by omega) fun b2 w2 hb hB hs hk=>?_;refine uS' τok rfl l (RowN.rep hB) (by simp) (hS.tr hk) hl rfl fun w3 hR hs3 hk3=>?_;refine ⟨⟨_,rfl,some ⟨b2,0,none⟩,n,(by show Value.slice (some ⟨b2,0,none⟩) n n = _; rw [<- hf.1]),?_,by omega⟩,hk.newSt hb hk3⟩;have e:l.take (List.replicate n 0).length ++ (List.replicate n 0).drop l.length = hT' BB (val BB l):=by
   rw [List.length_replicate,List.drop_of_length_le (by simp; omega),JD];exact hf.2
  rw [e] at hR;exact hR.sl (mn' kU' _) (by omega) (by omega)
theorem sr' (n:Nat) (hn:n < 18446744073709551616) (w:World) :
  CC 81 #[.int .u64 (n:Int)] w (fun e w'=>(∃ v,e = .returned v /\ uv' n w w' v) /\ Kp [] w w'):=by
 refine oF Tryz.func81 ?_;refine cO (args:=[_]) 10 [.tmp 2] τok Tryz.func81 ?_;refine u32m (n % 4294967296) rfl ?_;refine uQ' (n:=32) (n / 4294967296) (by decide) rfl ?_;refine u32m (n / 4294967296) (Nat.mod_eq_of_lt (by omega)) ?_;refine fill _ rfl ?_;refine new fun b w1 hb hB hs hk=>?_;have hR:RowN .u32 w1.heap b [n % 4294967296,n / 4294967296] 105:=hB;have hd:Dig BB [n % 4294967296,n / 4294967296]:=fun d hd=>by
  simp at hd;unfold BB;omega
 have hv:val BB [n % 4294967296,n / 4294967296] = n:=by
  simp only [val];unfold BB;omega
 have hsl:Sl rW (New w.heap.size w1) (some ⟨b,0,none⟩) [n % 4294967296,n / 4294967296]:=hR.sl hd (by simp) (by omega);obtain ⟨l,hll,hl2⟩:∃ l:List Nat,[n % 4294967296,n / 4294967296] = l /\ l.length = 2:=⟨_,rfl,rfl⟩
 rw [hll] at hsl hv;have hnc:=uw' (New.sub _ w1) l (some ⟨b,0,none⟩) 2 hsl (by omega);rw [hl2,hv] at hnc;refine ab' hnc ?_;rintro e w2 ⟨⟨v,rfl,hv2⟩,hk2⟩;obtain ⟨a,c,rfl,h1,h2⟩:=hv2;exact ⟨⟨_,rfl,a,c,rfl,h1.mono (fun b o v h=>⟨KQ hk.size h.1,h.2⟩),h2⟩,hk.tr hk2⟩
end
end Go.Proofs.YtmlnlmkmpgkekaaGreat
