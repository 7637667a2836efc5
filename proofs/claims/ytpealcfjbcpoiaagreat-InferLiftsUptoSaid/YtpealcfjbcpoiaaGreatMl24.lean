import Derived.Test.YtpealcfjbcpoiaaGreatMl23
set_option linter.unusedVariables false
set_option linter.unusedSimpArgs false
set_option maxRecDepth 100000
set_option maxHeartbeats 4000000
namespace Go.Wx
theorem qp' {w:World} {base e sz n:Nat} {v:Value} {xs:List Value} (h:w.ownsRow base e sz v n xs):∀ g ∈ v.ownBlock.toList,base <= g:=fun g hg=>by
 rcases h.2 with ⟨rfl,_⟩ | ⟨g',cap,cur,rfl,hb,hc,_⟩
 ·cases hg
 ·simp [Value.ownBlock] at hg
  omega
end Go.Wx
namespace Go.Proofs.YtpealcfjbcpoiaaGreat
open Go.Wx Cd Tm Lv
theorem wC' {α:Type} {R:Rd α} {C:Mem} {w:World} {a:Option Addr} {l:List α} (h:Sl R C a l) (hS:Sub C w) (hp:0 < R.sz):∃ css:List (List Value),All2 (R.den C) css l /\ (l.length = 0 \/ ∃ b o,a = some ⟨b,o,none⟩ /\ ∀ j u,css.flatten[j]? = some u -> Cl w.heap b (o + j) u):=by
 rcases h.2 with h0 | ⟨b,o,rfl,h2⟩
 ·have:l = []:=List.length_eq_zero_iff.1 h0
  subst this;exact ⟨[],trivial,.inl rfl⟩
 ·obtain ⟨css,h3,h4⟩:=eO' l o h2
  exact ⟨css,h3,.inr ⟨b,o,rfl,fun j u hj=>Cl.of (fF' h3 hp h4 hS j u hj)⟩⟩
section
variable {w:World} {x:CaT}
theorem jJ' {v vm:Value} {mo:List Nd} (hv:CaV (Im [] w) x v) (hm:SV rNd (Im [] w) mo vm) :
  CC 3 #[v,vm] w (fun e w'=>e = .returned (.bool true) /\ Kp [] w w'):=by
 refine oF Tryz.func3 ?_;have hvv:=hv;obtain ⟨v1,v2,v3,vc,vt,vy,rfl,hO,hE,hP,hC,hT,hY,hf⟩:=hv;obtain ⟨ac,cc,rfl,hC1,_⟩:=id hC;obtain ⟨at_,ct_,rfl,ht1,_⟩:=id hT;obtain ⟨ay,cy,rfl,hy1,_⟩:=id hY;obtain ⟨am,cm,rfl,hm1,hm2⟩:=id hm;have hbo:BoV (Im [] w) x.book (.agg #[.int .i64 x.book.vars,v1,v2,.int .i64 x.book.nat,v3]):=⟨v1,v2,v3,rfl,hO,hE,hP⟩
 refine cO (args:=[_,_]) 124 [.tmp 4] τok Tryz.func3 ?_;refine new fun b2 w1 hb2 h2 hs1 hk1=>?_;have h2:Bk w1.heap b2 [.int .i64 x.book.vars,v1,v2,.int .i64 x.book.nat,v3,.slice ac x.ctx.length cc,.slice at_ x.term.length ct_,.slice ay x.type.length cy,.int .i64 x.fuel] 31:=h2;refine ab' (sc' w1) ?_;rintro e w2 ⟨rfl,hk2⟩;have k02:=hk1.tr hk2;have h2:=h2.kp hk2 (by simp);refine ldN [.int .i64 x.book.vars,v1,v2,.int .i64 x.book.nat,v3,.slice ac x.ctx.length cc,.slice at_ x.term.length ct_,.slice ay x.type.length cy,.int .i64 x.fuel] rfl (bZ h2) ?_;refine ab' (sb' (C:=Im [] w) ((Im.sub [] w).tr k02) hvv) ?_;rintro e w3 ⟨rfl,hk3⟩;have k03:=k02.tr hk3;have h2:=h2.kp hk3 (by simp);cases hh:nh' x with
 | true=>exact ⟨rfl,k03⟩
 | false =>
  refine ac' (fun g1=>?_) (fun g1=>?_)
  ·exact ⟨rfl,k03⟩
  have g1:¬ 500 < (mo.length:Int):=g1;refine lb h2 ?_;refine ac' (fun g2=>?_) (fun g2=>?_)
  ·exact ⟨rfl,k03⟩
  have g2:¬ 250 < (x.ctx.length:Int):=g2;have hl2:=h2.lt;refine fill [] rfl ?_;refine new fun ba w4 hba hA hsa hka=>?_;have hA:Bk w4.heap ba [] 35:=hA;have k04:=k03.tr hka;have h2:=h2.kp hka (by simp);refine lb h2 ?_;obtain ⟨css,hcd,hcc⟩:=wC' (R:=rBd) (hC1.mono fun b o v h=>h.tr k03) (Im.sub [] w3) (by decide);obtain ⟨hcf1,hcf2⟩:=fb' hcd;refine ap τok rfl rfl (by decide) w3.heap.size (v:=.slice (some ⟨ba,0,none⟩) 0 0) (n:=0) (xs:=[]) (jT' (n:=0) hA (by omega) (by simp) (by simp [maxLen])) css.flatten hcf1 (hcc.imp_right fun ⟨b,o,h1,h3⟩=>⟨b,o,h1,fun j u hj=>(h3 j u hj).kp hka (by simp)⟩) hcf2 (by omega) (by simp only [maxLen]; omega) (by have:=hka.size; omega) fun vr w5 hr5 hkr=>?_;rw [KW,List.nil_append] at hr5;have hkr:Kp [ba] w4 w5:=hkr;have k35:Kp [] w3 w5:=hka.trans hkr fun y hy hl=>by simp at hy; omega
  have h2:=h2.kp hkr (by simp; omega);refine fill [.slice am mo.length cm,.slice none 0 0] rfl ?_;refine new fun b8 w6 hb8 h8 hs8 hk8=>?_;have h8:Bk w6.heap b8 [.slice am mo.length cm,.slice none 0 0] 35:=h8;have k36:=k35.tr hk8;have h2:=h2.kp hk8 (by simp);have hr6:=oa' hr5 hk8 (by simp);refine ap τok rfl rfl (by decide) w3.heap.size hr6 (m:=1) [.slice am mo.length cm,.slice none 0 0] rfl (.inr ⟨b8,0,rfl,fun j u hj=>by rw [KW]; exact h8.cl hj⟩) (fun u hu=>by simp at hu; rcases hu with rfl | rfl <;> rfl) (by omega) (by simp only [maxLen]; omega) k36.size fun v9 w9 hr9 hk9=>?_;have k39:Kp [] w3 w9:=k36.trans hk9 fun y hy hl=>by have:=qp' hr6 y hy; omega
  have k09:=k03.tr k39;have h2:Bk w9.heap b2 [.int .i64 x.book.vars,v1,v2,.int .i64 x.book.nat,v3,.slice ac x.ctx.length cc,.slice at_ x.term.length ct_,.slice ay x.type.length cy,.int .i64 x.fuel] 31:=h2.kp hk9 fun hb=>by
   have:=qp' hr6 b2 hb;have:=hk2.size;have:=hk3.size;omega
  have up9:∀ b o v,Im [] w b o v -> Im [] w9 b o v:=fun b o v h=>h.tr k09;have hcx9:SV rBd (Im [] w9) (x.ctx ++ [(mo,[])]) v9:=by
   have:=pp' (w:=w3) (C:=Im [] w3) (R:=rBd) (l:=x.ctx ++ [(mo,[])]) (css:=css ++ [[.slice am mo.length cm,.slice none 0 0]]) (by simpa [show rBd.sz = 2 from rfl] using hr9) (hcd.append ⟨⟨_,_,rfl,hm.mono fun b o v h=>h.tr k03,SV.nil _ _⟩,trivial⟩) (by simp; omega);exact this.mono (Im.cn (by simp) k39)
  obtain ⟨a9,c9,rfl,_,_⟩:=id hcx9;refine ldN [.int .i64 x.book.vars,v1,v2,.int .i64 x.book.nat,v3] rfl (bk5 h2) ?_;refine lb h2 ?_;refine lb h2 ?_;refine ab' (jG' (C:=Im [] w9) (Im.sub [] w9) (fun _ _ _ h=>h.hold) (hbo.mono up9) (hC.mono up9) (hT.mono up9)) ?_;rintro e wA ⟨rfl,hkA⟩;have h2:=h2.kp hkA (by simp);have k9A:=hkA;have upA:∀ b o v,Im [] w b o v -> Im [] wA b o v:=fun b o v h=>h.tr (k09.tr k9A);refine ac' (fun g3=>?_) (fun g3=>?_)
  ·exact ⟨rfl,k09.tr k9A⟩
  have g3:¬ cm' x.book x.ctx x.term ≠ 0:=g3;refine ldN [.int .i64 x.book.vars,v1,v2,.int .i64 x.book.nat,v3] rfl (bk5 h2) ?_;refine lb h2 ?_;refine ab' (jG' (C:=Im [] wA) (Im.sub [] wA) (fun _ _ _ h=>h.hold) (hbo.mono upA) (hC.mono upA) (hm.mono upA)) ?_;rintro e wB ⟨rfl,hkB⟩;have h2:=h2.kp hkB (by simp);have k9B:=k9A.tr hkB;have upB:∀ b o v,Im [] w b o v -> Im [] wB b o v:=fun b o v h=>h.tr (k09.tr k9B);refine ac' (fun g4=>?_) (fun g4=>?_)
  ·exact ⟨rfl,k09.tr k9B⟩
  have g4:¬ cm' x.book x.ctx mo ≠ 0:=g4;obtain ⟨hft,hte,hlaw⟩:=lX' (f:=x.fuel) (Decidable.not_not.1 g3) (Decidable.not_not.1 g4) (by omega);have hTm:TmV (Im [] wB) (tr x.term) (.slice at_ x.term.length ct_):=by unfold TmV; rw [<- hte]; exact hT.mono upB
  refine lb h2 ?_;refine ab' (dG' (C:=Im [] wB) (Im.sub [] wB) (fun _ _ _ h=>h.hold) hft (by omega) hTm (b:=1) (by omega)) ?_;rintro e wC ⟨vu,rfl,hvu,hkC⟩;have h2:=h2.kp hkC (by simp);have k9C:=k9B.tr hkC;have upC:∀ b o v,Im [] w b o v -> Im [] wC b o v:=fun b o v h=>h.tr (k09.tr k9C);rw [(lO' (k:=0) hft.ok (hft.small (by omega))).1] at hvu;have hvu:=hvu.tv (X:=[]) (by simp);obtain ⟨au,cu,rfl,_,_⟩:=id hvu;refine ldN [.int .i64 x.book.vars,v1,v2,.int .i64 x.book.nat,v3] rfl (bk5 h2) ?_;refine lb h2 ?_;refine lb h2 ?_;refine lb h2 ?_;refine ab' (fq' (X:=[]) (B:=x.book) (c:=x.ctx) (t:=x.term) (fuel:=x.fuel) (by simp) (hbo.mono upC) (hC.mono upC) (hT.mono upC)) ?_;rintro e wD ⟨he,hkD⟩;have h2:=h2.kp hkD (by simp);have k9D:=k9C.tr hkD;have upD:∀ b o v,Im [] w b o v -> Im [] wD b o v:=fun b o v h=>h.tr (k09.tr k9D);cases hr:eG' x.book x.ctx x.term x.fuel with
  | error er =>
   rw [hr] at he hlaw;obtain rfl:=he;refine ldN [.int .i64 x.book.vars,v1,v2,.int .i64 x.book.nat,v3] rfl (bk5 h2) ?_;refine lb h2 ?_;refine ab' (fq' (X:=[]) (B:=x.book) (c:=x.ctx ++ [(mo,[])]) (t:=row (up 0 (tr x.term))) (fuel:=x.fuel) (by simp) (hbo.mono upD) (hcx9.mono fun b o v h=>h.tr k9D) ((TmV.sv.1 hvu).mono fun b o v h=>h.tr hkD)) ?_;rintro e wE ⟨he,hkE⟩;have kE:=k09.tr (k9D.tr hkE);rcases hlaw with hl | ⟨hl,_⟩
   ·rw [hl] at he
    obtain rfl:=he;refine ac' (fun g5=>?_) (fun g5=>?_)
    ·exact ⟨rfl,kE⟩
    have g5:¬ er ≠ 5:=g5;refine cj' (p:=er ≠ 5) g5 ?_;refine au' (p:=er ≠ 0) (jI' hr) ?_;exact ⟨rfl,kE⟩
   ·rw [hl] at he
    obtain rfl:=he;refine ac' (fun g5=>?_) (fun g5=>?_)
    ·refine cj' (p:=er ≠ er) (fun h=>h rfl) ?_
     refine cj' (p:=er ≠ er) (fun h=>h rfl) ?_;refine au' (p:=er ≠ 0) (jI' hr) ?_;exact ⟨rfl,kE⟩
    ·refine cj' (p:=er ≠ er) (fun h=>h rfl) ?_
     refine au' (p:=er ≠ 0) (jI' hr) ?_;exact ⟨rfl,kE⟩
  | ok q =>
   obtain ⟨a,n⟩:=q;rw [hr] at he hlaw;obtain ⟨u,rfl,hu⟩:=he;obtain ⟨au2,cu2,rfl,hu1,hu2⟩:=id hu;refine ldN [.int .i64 x.book.vars,v1,v2,.int .i64 x.book.nat,v3] rfl (bk5 h2) ?_;refine lb h2 ?_;refine ab' (fq' (X:=[]) (B:=x.book) (c:=x.ctx ++ [(mo,[])]) (t:=row (up 0 (tr x.term))) (fuel:=x.fuel) (by simp) (hbo.mono upD) (hcx9.mono fun b o v h=>h.tr k9D) ((TmV.sv.1 hvu).mono fun b o v h=>h.tr hkD)) ?_;rintro e wE ⟨he,hkE⟩;have kE:=k09.tr (k9D.tr hkE);rcases hlaw with hl | ⟨hl,haf⟩
   ·rw [hl] at he
    obtain rfl:=he;exact ⟨rfl,kE⟩
   ·rw [hl] at he
    obtain ⟨u',rfl,hu'⟩:=he;have hu':TmV (Im [] wE) (up 0 a) u':=hu';obtain ⟨au3,cu3,rfl,hu3,_⟩:=id hu';refine cj' (p:=(n:Int) ≠ (n:Int)) (fun h=>h rfl) ?_;have hfa:=haf a n rfl;refine ab' (dG' (C:=Im [] wE) (Im.sub [] wE) (fun _ _ _ h=>h.hold) hfa (by omega) (hu.mono fun b o v h=>h.tr hkE) (b:=1) (by omega)) ?_;rintro e wF ⟨vz,rfl,hvz,hkF⟩;rw [(lO' (k:=0) hfa.ok (hfa.small (by omega))).1] at hvz;obtain ⟨az,cz,rfl,hz1,_⟩:=hvz.tv (X:=[]) (by simp);refine ab' (kv' (w:=wF) (C:=Im [] wF) (D:=Im [] wF) (Im.sub _ _) (Im.sub _ _) (row (up 0 a)) (row (up 0 a)) az au3 cz cu3 hz1 (hu3.mono fun _ _ _ h=>h.tr hkF)) ?_;rintro e wG ⟨rfl,hkG⟩;rw [decide_eq_true (rfl:row (up 0 a) = row (up 0 a))];exact ⟨rfl,kE.tr (hkF.tr hkG)⟩
end
section
variable {H:Type} {enc:TypeId × Value -> H} {w:World} {spare:Nat -> Bool} {held:Bool}
open Go.ChangeShapes Go.WideShapes Go.ChangeAt Go.RowKit in
theorem uu' {v:Value} {r:Reach} {b0:Nat} {d:DataW H} {ps:List MemPlace} (hval:Value.okWide Tryz.prog w r b0 29 v) (h:DataW.Trod enc Tryz.prog w 0 spare held 29 v d ps) (hB:Rows.uptoBulk d <= 1048576) :
  ∃ l,SV rNd (Im [] w) l v:=by
 obtain ⟨fuel,hf⟩:=h;have go:∀ u,DataW.trod enc Tryz.prog w 0 spare held fuel 29 [u] = some (d,ps) -> ∃ l,SV rNd (Im [] w) l u:=fun u hu=>by
  obtain ⟨l,hl⟩:=bQ' hu hB;exact ⟨l,hl.mono fun b o v h=>⟨Old.sub w _ _ _ h,by simp⟩⟩
 cases v <;> first | exact go _ hf | (exfalso; simp [Value.okWide,Tryz.underlying29,Cell.okWide,Cell.ok] at hval)
end
end Go.Proofs.YtpealcfjbcpoiaaGreat
