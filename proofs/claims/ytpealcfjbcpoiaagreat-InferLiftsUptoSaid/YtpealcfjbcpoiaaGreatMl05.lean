import Derived.Test.YtpealcfjbcpoiaaGreatMl04
import Derived.Recover
set_option linter.unusedVariables false
set_option linter.unusedSimpArgs false
set_option maxHeartbeats 4000000
namespace Go.Proofs.YtpealcfjbcpoiaaGreat
open Go.Wx Cd Tm
section
variable {σ:Type}
def wb' (k:Wk) (U:World -> σ -> Prop) (er:Int) (w:World) (v:Value):Option (σ × List Nd) -> Ending -> World -> Prop
 | some s,e,w'=>∃ v',e = .returned v' /\ Own rNd 45 k.lo w' v' s.2 /\ U w' s.1 /\ Kp (v.ownBlock.toList ++ k.UB) w w' /\ Lat v v' w
 | none,e,w'=>e = .panicked (qG' er) /\ Kp (v.ownBlock.toList ++ k.UB) w w'
def Wk.One (k:Wk) (C:Mem) (U:World -> σ -> Prop) (one:σ × List Nd -> Nd -> Int -> Option (σ × List Nd)) (M:Nat) (er:Int):Prop :=
 ∀ (w:World) (v:Value) (u:σ) (l:List Nd) (n:Nd) (d:Nat),I64 n.op -> I64 n.a -> I64 n.b -> ah' n = true -> d <= 100000 -> l.length <= M -> Sub C w -> Own rNd 45 k.lo w v l -> (∀ g,v.ownBlock = some g -> g ∉ k.bl) -> U w u ->
  di' Tryz.prog k.f /\ Calls Tryz.prog k.f (#[] ++ [v,ndV n,iV (d:Int)].toArray ++ k.caps) w (wb' k U er w v (one (u,l) n d))
def td' (k:Wk) (C:Mem) (U:World -> σ -> Prop) (er:Int) (w:World) (v:Value) (q:Nat):Option (σ × List Nd) -> Ending -> World -> Prop
 | some s,e,w'=>∃ v',e = .returned (.tuple #[]) /\ k.St C w' q v' s.2 /\ U w' s.1 /\ Kp (k.X v) w w' /\ Lat v v' w
 | none,e,w'=>e = .panicked (qG' er) /\ Kp (k.X v) w w'
theorem Lat.trans {v v1 v2:Value} {w w1:World} (h:Lat v v1 w) (hs:w.heap.size <= w1.heap.size) (h2:Lat v1 v2 w1):Lat v v2 w:=fun g hg=>by
 rcases h2 g hg with q | q
 ·exact h g q
 ·exact .inr (KQ hs q)
theorem Wk.stepX {k:Wk} {v v1:Value} {w w1 w2:World} (hk:Kp (k.X v) w w1) (hl:Lat v v1 w) (h2:Kp (k.X v1) w1 w2):Kp (k.X v) w w2 :=
 hk.trans h2 fun x hx hlt=>by
  simp only [Wk.X,JJ,JW] at hx ⊢;rcases hx with rfl | rfl | hx | hx
  ·exact .inl rfl
  ·exact .inr (.inl rfl)
  ·have hg:v1.ownBlock = some x:=by simpa using hx
   rcases hl x hg with q | q
   ·exact .inr (.inr (.inl (by simpa using q)))
   ·omega
  ·exact .inr (.inr (.inr hx))
theorem Wk.weakX {k:Wk} {v:Value} {w w':World} {Y:List Nat} (h:Kp Y w w') (hy:∀ x ∈ Y,x ∈ k.X v):Kp (k.X v) w w':=h.weak fun x hx _=>hy x hx
theorem oo' {k:Wk} {v:Value}:k.ba ∈ k.X v:=by simp [Wk.X]
theorem op' {k:Wk} {v:Value}:k.bu ∈ k.X v:=by simp [Wk.X]
theorem fw' {k:Wk} {v:Value} {x:Nat} (h:x ∈ v.ownBlock.toList ++ k.UB):x ∈ k.X v:=by simp only [Wk.X,JJ]; exact .inr (.inr h)
theorem Wk.newX {k:Wk} {C:Mem} {w:World} {p:Nat} {v:Value} {l:List Nd} (s:k.St C w p v l) {b:Nat} (hb:w.heap.size <= b):b ∉ k.X v:=by
 simp only [Wk.X,JJ,JW,not_or];have h1:=s.ba.lt;have h2:=s.bu.lt;refine ⟨by omega,by omega,fun hx=>?_,fun hx=>?_⟩
 ·have hg:v.ownBlock = some b:=by simpa using hx
  have:=(s.own.block b hg).2;omega
 ·have:=s.ub b hx
  omega
theorem iW' {t r:List Nd} {p:Nat} {n:Nd} (h:t.drop p = n :: r):t[p]? = some n /\ p < t.length /\ t.drop (p + 1) = r:=by
 have hlt:p < t.length:=by
  rcases Nat.lt_or_ge p t.length with h1 | h1
  ·exact h1
  ·rw [JY h1] at h; cases h
 obtain ⟨x,hx,hd⟩:=af' hlt;rw [hd] at h;injection h with h1 h2
 subst h1;exact ⟨hx,hlt,h2⟩
theorem Sl.piece {α:Type} {R:Rd α} {C:Mem} {b o:Nat} {t l suf:List α} {q:Nat} (h:Sl R C (some ⟨b,o,none⟩) t) (hd:t.drop q = l ++ suf):Sl R C (some ⟨b,o + q * R.sz,none⟩) l:=by
 have hlen:t.length - q = l.length + suf.length:=by rw [<- List.length_drop,hd,JK]
 refine ⟨by have:=h.1; omega,?_⟩;rcases Nat.eq_zero_or_pos l.length with h0 | h0
 ·exact .inl h0
 ·refine .inr ⟨b,o + q * R.sz,rfl,fun i x hi=>?_⟩
  obtain ⟨b',o',e,hc⟩:=h.at (i:=0) (by omega)
  injection e with e
  injection e with e1 e2
  subst e1 e2;have hi':t[q + i]? = some x:=by
   rw [<- List.getElem?_drop,hd,List.getElem?_append_left (ai' hi)];exact hi
  have:=hc _ _ hi'
  rwa [Nat.add_mul,<- Nat.add_assoc] at this
theorem qH' {k:Wk} {C:Mem} (hK:k.Ok C) (U:World -> σ -> Prop) (one:σ × List Nd -> Nd -> Int -> Option (σ × List Nd)) (M:Nat) (er:Int) (G:Nat) (hG:1 <= G) (hM:M <= 1099511627776)
  (hU:∀ w w' u X,U w u -> Kp X w w' -> (∀ b ∈ X,b ∉ k.UB) -> U w' u) (hOne:k.One C U one M er) (hgrow:∀ u l n d u' l',one (u,l) n d = some (u',l') -> l'.length <= l.length + G) :
  ∀ (N:Nat) (x:Tr) (suf:List Nd) (w:World) (p:Nat) (v:Value) (u:σ) (l:List Nd) (d:Nat),(row x).length <= N -> Ok .tm x -> k.t.drop p = row x ++ suf -> k.St C w p v l -> U w u -> d + 4 * (row x).length <= 100000 -> l.length + G * (row x).length <= M ->
   CC 46 #[iV (d:Int),pt k.bt,pt k.ba,pt k.bo,pt k.bu,pt k.bs] w (td' k C U er w v (p + (row x).length) (wT one eI' x d 0 (u,l))):=by
 intro N
 induction N using Nat.strongRecOn with
 | _ N ih =>
 rintro ⟨n,ks⟩ suf w p v u l d hN hx ht s hu hd hl;refine oF Tryz.func46 ?_;obtain ⟨hp,h3,h13⟩:=hx.tm;obtain ⟨hc,hok,hinc⟩:=hx.kids;obtain ⟨RES,hRES⟩:∃ r,wT one eI' (.mk n ks) d 0 (u,l) = r:=⟨_,rfl⟩
 rw [hRES];simp only [wT,if_neg (show ¬ (n.op = 3 \/ n.op = 13) by simp [h3,h13])] at hRES;simp only [row,List.cons_append,JV] at ht hN hd hl;obtain ⟨hn,hlt,ht1⟩:=iW' ht;have hrow:=hK.row;obtain ⟨b,o,hta,i1,i2,i3,hcells⟩:=ft' hrow hn;have htl:=hrow.1;have hbn:=ba' hp;have hbt:Bk w.heap k.bt [.slice (some ⟨b,o,none⟩) k.t.length k.cap] k.Tt:=by rw [<- hta]; exact s.bt
 obtain ⟨Q,hQ⟩:∃ Q,p + (row (.mk n ks)).length = Q:=⟨_,rfl⟩
 rw [hQ];have hQ:Q = p + 1 + (rows ks).length:=by rw [<- hQ]; simp [row]; omega
 refine ee' (args:=[_,_,_,_,_,_]) 70 [] Tryz.func46 rfl rfl rfl (Nat.le_of_ble_eq_true rfl) ?_;refine bi' τok ?_;refine ld (hbt.cl rfl).cell ?_;refine ld (s.ba.cl rfl).cell ?_;refine ix p rfl hlt ?_;refine ldN [iV n.op,iV n.a,iV n.b] rfl (fun j v hj=>s.sub _ _ _ (hcells j v hj)) ?_;refine new fun bn w1 hbn1 hB0 hs1 hk1=>?_;refine stN (vs:=[iV n.op,iV n.a,iV n.b]) hB0 rfl (by simp [Value.oneCell']) fun w2 hB hs2 hk2=>?_;have k02:Kp [] w w2:=hk1.newSt hbn1 hk2;have hB:Bk w2.heap bn [iV n.op,iV n.a,iV n.b] 45:=hB;have s2:=s.kp hK k02;have hu2:=hU _ _ _ _ hu k02 (by simp);have hbnl:=hB.lt;have hnew:∀ v',Lat v v' w2 -> bn ∉ k.X v':=fun v' hl' hx=>by
  simp only [Wk.X,JJ,JW] at hx;have hn0:=Wk.newX s (b:=bn) (by omega);simp only [Wk.X,JJ,JW,not_or] at hn0;rcases hx with hx | hx | hx | hx
  ·exact hn0.1 hx
  ·exact hn0.2.1 hx
  ·have hg:v'.ownBlock = some bn:=by simpa using hx
   rcases hl' bn hg with q | q
   ·exact hn0.2.2.1 (by simpa using q)
   ·omega
  ·exact hn0.2.2.2 hx
 have hne:=hK.ne;obtain ⟨n1,n2,n3,n4,n5,n6,n7,n8,n9,n10,uu1,uu2,uu3,uu4,uu5⟩:=hne;have lat0:Lat v v w2:=fun g hg=>.inl hg;have fin:∀ (w':World) (v':Value) (u':σ) (l':List Nd),RES = some (u',l') -> k.St C w' Q v' l' -> U w' u' -> Kp (k.X v) w2 w' -> Lat v v' w2 -> td' k C U er w v Q RES (.returned (.tuple #[])) w':=fun w' v' u' l' e h1 h2 h3 h4=>by
  rw [e];exact ⟨v',rfl,h1,h2,(k02.weak (by simp)).trans h3 (fun x hx _=>hx),fun g hg=>(h4 g hg).imp id fun q=>KQ k02.size q⟩
 have bad:∀ (w':World),RES = none -> Kp (k.X v) w2 w' -> td' k C U er w v Q RES (.panicked (qG' er)) w':=fun w' e h3=>by
  rw [e];exact ⟨rfl,(k02.weak (by simp)).trans h3 (fun x hx _=>hx)⟩
 refine bi' τok ?_;refine ld (s2.ba.cl rfl).cell ?_;refine jK' ((p + 1:Nat):Int) (by omega) (by omega) (by simp) ?_;refine st (b:=k.ba) (o:=0) s2.ba (by simp) rfl fun w3 ha3 hs3 hk3=>?_;have s3:=s2.at hK (q:=p + 1) ha3 hk3;have hu3:=hU _ _ _ _ hu2 hk3 (by simpa using uu2);have kx3:Kp (k.X v) w2 w3:=Wk.weakX hk3 (by simp [oo']);have hB3:=hB.kp kx3 (hnew v lat0);refine bi' τok ?_;refine ld (s3.bo.cl rfl).cell ?_;refine ld (s3.bu.cl rfl).cell ?_;refine ldN [iV n.op,iV n.a,iV n.b] rfl (bZ hB3) ?_;have hone:=hOne w3 v u l n d i1 i2 i3 hp (by omega) (by omega) s3.sub s3.own s3.far hu3;obtain ⟨r,hr⟩:∃ r,one (u,l) n d = r:=⟨_,rfl⟩
 rw [hr] at hone hRES;refine ab' hone ?_;rintro e w4 he;cases r with
 | none =>
  obtain ⟨rfl,hk4⟩:=he;exact bad w4 hRES.symm (Wk.stepX kx3 lat0 (Wk.weakX hk4 fun x hx=>fw' hx))
 | some r =>
 obtain ⟨u1,l1⟩:=r;obtain ⟨v1,rfl,ho4,hu4,hk4,hl4⟩:=he;simp only at hRES ho4 hu4;have hgr:=hgrow _ _ _ _ _ _ hr;have kx4:Kp (k.X v) w2 w4:=Wk.stepX kx3 lat0 (Wk.weakX hk4 fun x hx=>fw' hx);have lat4:Lat v v1 w2:=fun g hg=>(hl4 g hg).imp id fun q=>KQ kx3.size q;obtain ⟨a1,c1,hv1,hlc1⟩:=ho4.cap;have hbu4:Bk w4.heap k.bu [v] k.Tu:=s3.bu.kp hk4 fun hx=>by
  rcases List.mem_append.1 hx with hx | hx
  ·have hg:v.ownBlock = some k.bu:=by simpa using hx
   exact s3.far k.bu hg (by simp [Wk.bl])
  ·exact uu4 hx
 refine st (b:=k.bu) (o:=0) hbu4 (by simp) (by rw [hv1]; rfl) fun w5 hb5 hs5 hk5=>?_;have s5:=s3.out hK hk4 ho4 hl4 hb5 hk5;have hu5:=hU _ _ _ _ hu4 hk5 (by simpa using uu4);have kx5:Kp (k.X v) w2 w5:=kx4.trans hk5 fun x hx _=>by
  obtain rfl:x = k.bu:=by simpa using hx
  exact op'
 have hB5:=hB.kp kx5 (hnew v lat0);have hl1:l1.length + G * (rows ks).length <= M:=by
  rw [Nat.mul_add] at hl;omega
 have hlenk:k.t.length - (p + 1) = (rows ks).length + suf.length:=by rw [<- List.length_drop,ht1,JK]
 have hGk:(rows ks).length <= G * (rows ks).length:=Nat.le_mul_of_pos_left _ hG;have nf:∀ b ∈ k.bl,b ∉ v1.ownBlock.toList:=fun b hb hx=>s5.far b (by simpa using hx) hb;have nfn:bn ∉ v1.ownBlock.toList:=fun hx=>hnew v1 lat4 (fw' (List.mem_append_left _ hx));obtain ⟨kk,hkk⟩:∃ kk,kk = (if n.op = 2 then [] else ks):=⟨_,rfl⟩
 refine fM' τok (fun q:Nat × Value × List Nd=>[(0,iV (d:Int)),(1,pt k.bt),(2,pt k.ba),(3,pt k.bo),(4,pt k.bu),(5,pt k.bs),(7,pt bn)])
  (fun q w'=>k.St C w' q.1 q.2.1 q.2.2 /\ U w' u1 /\ Kp (k.X v) w2 w' /\ Lat v q.2.1 w2 /\ Bk w'.heap bn [iV n.op,iV n.a,iV n.b] 45 /\ wK one eI' kk n 0 0 d (u1,q.2.2) = RES /\ k.t.drop q.1 = rows kk ++ suf /\ q.2.2.length + G * (rows kk).length <= M /\ Q = q.1 + (rows kk).length) ?_ ?_
 ·refine ld (hB5.cl rfl).cell ?_
  refine ac' (fun h2=>?_) (fun h2=>?_)
  ·have h2:n.op = 2:=h2
   rw [if_pos h2] at hkk;subst hkk;have hb1:(rows ks).length = ks.length:=mi' h2 hok;obtain ⟨_,_,_,hkc⟩:=bG' hc;rw [if_pos h2] at hkc;have hnb:n.b = ((rows ks).length:Int):=by omega
   have hb14:1 <= n.b:=by
    have:inR n.b 1 4 = true:=by simp [ah',h2] at hp; exact hp.2
    exact (aF'.1 this).1
   have hcap:=hK.cap;have hbt5:Bk w5.heap k.bt [.slice (some ⟨b,o,none⟩) k.t.length k.cap] k.Tt:=by rw [<- hta]; exact s5.bt
   have hpc:Sl rNd C (some ⟨b,o + (p + 1) * 3,none⟩) (rows ks):=Sl.piece (R:=rNd) (by rw [<- hta]; exact hrow) ht1;rw [mh' one ks n 0 0 d (u1,l1) hok h2] at hRES;refine as' τok (fun z=>Kp v1.ownBlock.toList w5 z) ?_;refine rV τok (rg 0 8) 2 (mR 10 8) ((Kp.refl _ w5).dr _) ?_;refine ldQ (fun z hz=>(s5.bu.cl rfl).kp hz (nf _ (by simp [Wk.bl]))) ?_;refine ldQ (fun z hz=>(hbt5.cl rfl).kp hz (nf _ (by simp [Wk.bl]))) ?_;refine ldQ (fun z hz=>(s5.ba.cl rfl).kp hz (nf _ (by simp [Wk.bl]))) ?_;refine ldQ (fun z hz=>(s5.ba.cl rfl).kp hz (nf _ (by simp [Wk.bl]))) ?_;refine ldQ (fun z hz=>(hB5.cl rfl).kp hz nfn) ?_;refine jK' ((p + 1 + (rows ks).length:Nat):Int) (by omega) (by omega) (by omega) ?_;refine cw' τok rfl (p + 1) (p + 1 + (rows ks).length) (.slice (some ⟨b,o + (p + 1) * 3,none⟩) (rows ks).length (k.cap - (p + 1))) rfl rfl (by omega) (by omega) (by rw [eT' (by omega),Nat.add_sub_cancel_left]) ?_;refine nV τok 8 1 (mR 10 9) ?_;have hS5:Sub C (dr w5):=s5.sub.tr ((Kp.refl [] w5).dr (w5.drawn + 1));refine (s5.own.kp ((Kp.refl [] w5).dr (w5.drawn + 1))).apF τok rfl rfl (by decide) cy' hS5 (rows ks) hpc (by omega) (by simp only [maxLen]; omega) fun v6 w6 ho6 hk6 hl6=>?_;have hk6:Kp v1.ownBlock.toList w5 w6:=hk6.rd;have lat6:Lat v1 v6 w5:=fun g hg=>by
    rcases hl6 with q | q
    ·rw [q] at hg; exact .inl hg
    ·rw [q] at hg
     obtain rfl:=JB hg;exact .inr (KJ _)
   refine ⟨.inl hk6,?_⟩;refine nV τok 9 0 (mR 10 10) ?_;obtain ⟨a6,c6,hv6,_⟩:=ho6.cap;refine st (b:=k.bu) (o:=0) (s5.bu.kp hk6 (nf _ (by simp [Wk.bl]))) (by simp) (by rw [hv6]; rfl) fun w7 hb7 hs7 hk7=>?_;refine ⟨.inr (by kernel_rfl),?_⟩;refine dV ?_;have hk6':Kp (v1.ownBlock.toList ++ k.UB) w5 w6:=hk6.weak fun x hx _=>List.mem_append_left _ hx;have s7:=s5.out hK hk6' ho6 lat6 hb7 hk7;have kx6:Kp (k.X v) w2 w6:=Wk.stepX kx5 lat4 (Wk.weakX hk6' fun x hx=>fw' hx);have kx7:Kp (k.X v) w2 w7:=kx6.trans hk7 fun x hx _=>by
    obtain rfl:x = k.bu:=by simpa using hx
    exact op'
   have lat7:Lat v v6 w2:=lat4.trans kx5.size lat6;have hB7:=hB.kp kx7 (hnew v lat0);have hu6:=hU _ _ _ _ hu5 hk6 (fun b hb hx=>nf b (by simp only [Wk.bl]; exact List.mem_append_right _ hx) hb);have hu7:=hU _ _ _ _ hu6 hk7 (by simpa using uu4);refine ld (s7.ba.cl rfl).cell ?_;refine ld (hB7.cl rfl).cell ?_;refine jK' ((p + 1 + (rows ks).length:Nat):Int) (by omega) (by omega) (by omega) ?_;refine st (b:=k.ba) (o:=0) s7.ba (by simp) rfl fun w8 ha8 hs8 hk8=>?_;have s8:=s7.at hK (q:=p + 1 + (rows ks).length) ha8 hk8;have kx8:Kp (k.X v) w2 w8:=kx7.trans hk8 fun x hx _=>by
    obtain rfl:x = k.ba:=by simpa using hx
    exact oo'
   have hl8:(l1 ++ rows ks).length <= M:=by rw [JK]; omega
   exact ⟨(p + 1 + (rows ks).length,v6,l1 ++ rows ks),rfl,⟨rfl,rfl,rfl,rfl,rfl,rfl,rfl,trivial⟩,s8,hU _ _ _ _ hu7 hk8 (by simpa using uu2),kx8,lat7,hB.kp kx8 (hnew v lat0),by simpa [wK] using hRES,by
    show k.t.drop (p + 1 + (rows ks).length) = _;rw [<- List.drop_drop,ht1,List.drop_left];simp [rows],by simpa [rows] using hl8,by simpa [rows] using hQ⟩
  ·have h2:¬ n.op = 2:=h2
   rw [if_neg h2] at hkk;subst hkk;exact ⟨(p + 1,v1,l1),rfl,⟨rfl,rfl,rfl,rfl,rfl,rfl,rfl,trivial⟩,s5,hu5,kx5,lat4,hB5,hRES,ht1,hl1,hQ⟩
 have hkkc:ar' n = (kk.length:Int) /\ okL cnt nx kk n .tm 0 /\ eo' kk = true:=by
  obtain ⟨_,_,_,hkc⟩:=bG' hc;have hkp:=dj' hp
  by_cases h2:n.op = 2
  ·rw [if_pos h2] at hkk
   subst hkk;exact ⟨by simp [ar',h2],trivial,rfl⟩
  ·rw [if_neg h2] at hkk hkc
   subst hkk;exact ⟨by omega,hok,hinc⟩
 have hkkr:(rows kk).length <= (rows ks).length:=by
  rw [hkk];split
  ·simp [rows]
  ·exact KJ _
 have hkk2:n.op = 2 -> kk = []:=fun h=>by rw [hkk,if_pos h]
 clear hRES hk5 hb5 hbu4 hk4 ho4 hk3 ha3 hone hr
 rintro ⟨p6,v6,l6⟩ w6 ⟨s6,hu6,kx6,lat6,hB6,hRES,ht6,hl6,hQ6⟩;simp only at s6 lat6 hRES ht6 hl6 hQ6;refine fY' τok ?_;refine ldN [iV n.op,iV n.a,iV n.b] rfl (bZ hB6) ?_;refine ab' (iT' n (by unfold I64; omega) w6) ?_;rintro e w7 ⟨rfl,hk7⟩;rw [hkkc.1];have s7:=s6.kp hK hk7;have hd6:d + 4 * ((rows ks).length + 1) <= 100000:=hd;have hkkl:kk.length <= (rows kk).length:=by rw [iS']; exact ij' kk
 have kx7:Kp (k.X v) w2 w7:=kx6.tr hk7;refine lp τok (σ:=Nat × Nat × Value × σ × List Nd × List Tr) (fun q=>[(0,iV (d:Int)),(1,pt k.bt),(2,pt k.ba),(3,pt k.bo),(4,pt k.bu),(5,pt k.bs),(7,pt bn),(37,iV (kk.length:Int)),(38,iV (q.1:Int))])
  (fun q w'=>q.1 <= kk.length /\ q.2.2.2.2.2.length = kk.length - q.1 /\ k.St C w' q.2.1 q.2.2.1 q.2.2.2.2.1 /\ U w' q.2.2.2.1 /\ Kp (k.X v) w2 w' /\ Lat v q.2.2.1 w2 /\ Bk w'.heap bn [iV n.op,iV n.a,iV n.b] 45 /\ wK one eI' q.2.2.2.2.2 n 0 q.1 d (q.2.2.2.1,q.2.2.2.2.1) = RES /\ k.t.drop q.2.1 = rows q.2.2.2.2.2 ++ suf /\ q.2.2.2.2.1.length + G * (rows q.2.2.2.2.2).length <= M /\ Q = q.2.1 + (rows q.2.2.2.2.2).length /\ okL cnt nx q.2.2.2.2.2 n .tm 0 /\ eo' q.2.2.2.2.2 = true /\ (rows q.2.2.2.2.2).length <= (rows ks).length)
  (fun q=>kk.length - q.1) (0,p6,v6,u1,l6,kk) rfl
  ⟨rfl,rfl,rfl,rfl,rfl,rfl,rfl,rfl,rfl,trivial⟩ ⟨KV _,rfl,s7,hU _ _ _ _ hu6 hk7 (by simp),kx7,lat6,hB6.kp hk7 (by simp),hRES,ht6,hl6,hQ6,hkkc.2.1,hkkc.2.2,hkkr⟩ ?_
 clear hRES ht6 hl6 hQ6 s7 s6 hu6 kx7 kx6 lat6 hB6 hk7 hkkc ht1 ht hc hkk
 rintro ⟨i,p7,v7,u7,l7,rest⟩ w8 ⟨hi,hrl,s8,hu8,kx8,lat8,hB8,hRES,ht8,hl8,hQ8,hok8,hinc8,hle8⟩;simp only at hi hrl s8 hu8 lat8 hRES ht8 hl8 hQ8 hok8 hinc8 hle8;refine ac' (fun g=>?_) (fun g=>?_)
 ·have g:(i:Int) < kk.length:=g
  match rest,hrl with
  | [],hrl=>simp at hrl; omega
  | y :: r,hrl =>
  obtain ⟨hoy,hokr,hincr⟩:=cd' hok8 hinc8;simp only [rows,JK,List.append_assoc,Nat.mul_add] at ht8 hl8 hQ8 hle8;simp only [JV] at hrl;simp only [wK] at hRES;refine ld (hB8.cl rfl).cell ?_;refine ac' (fun h12=>?_) (fun h12=>?_)
  ·have h12:n.op = 12:=h12
   have hoy:Ok .fn y:=by
    rwa [show nx Md.tm n 0 = .fn by simp [nx,h12]] at hoy
   obtain ⟨f,ty,bo,rfl,f13,hfp,hty,hbo⟩:=hoy.fn;have hb4:1 <= n.b /\ n.b <= 4:=by
    have:inR n.b 1 4 = true:=by simp [ah',h12] at hp; exact hp.1
    exact aF'.1 this
   obtain ⟨Bn,hBn⟩:∃ Bn:Nat,n.b = Bn:=⟨n.b.toNat,by omega⟩
   have hty13:ty.n.op ≠ 13:=by
    obtain ⟨m,l⟩:=ty;exact hty.tm.2.2
   have hbo13:bo.n.op ≠ 13:=by
    obtain ⟨m,l⟩:=bo;exact hbo.tm.2.2
   have hrowy:row (.mk f [ty,bo]) = f :: (row ty ++ row bo):=by simp [row,rows]
   rw [hrowy] at ht8 hl8 hQ8 hle8;simp only [List.cons_append,List.append_assoc,JV,JK] at ht8 hl8 hQ8 hle8;obtain ⟨hfn,hflt,ht9⟩:=iW' ht8;obtain ⟨bf,of,hbo2,j1,j2,j3,hcf⟩:=ft' hrow hfn;rw [hta] at hbo2;injection hbo2 with hbo2
   injection hbo2 with e1 e2
   subst e1 e2;have hwT:wT one eI' (.mk f [ty,bo]) ((d:Int) + arC n 0 i) n.b (u7,l7) = match wT one eI' ty d 0 (u7,l7 ++ [f]) with
     | none=>none
     | some s1=>wT one eI' bo ((d + Bn:Nat):Int) 0 s1:=by
    have hb0:aJ' n i = 0:=by simp [aJ',h12]
    simp only [wT,f13,or_true,if_true,eI',wK];rw [eR' h13,hb0,show arC f n.b 0 = 0 by simp [arC,f13],show arC f n.b (0 + 1) = n.b by simp [arC,f13],ta' hty13 _ f.b 0,Int.add_zero,Int.add_zero];cases wT one eI' ty (d:Int) 0 (u7,l7 ++ [f]) with
    | none=>rfl
    | some s1 =>
     simp only;rw [ta' hbo13 _ f.b 0,hBn,show (d:Int) + (Bn:Int) = ((d + Bn:Nat):Int) by omega];cases wT one eI' bo ((d + Bn:Nat):Int) 0 s1 <;> rfl
   rw [hwT] at hRES;have nf8:∀ b ∈ k.bl,b ∉ v7.ownBlock.toList:=fun b hb hx=>s8.far b (by simpa using hx) hb;have nfn8:bn ∉ v7.ownBlock.toList:=fun hx=>hnew v7 lat8 (fw' (List.mem_append_left _ hx));have hbt8:Bk w8.heap k.bt [.slice (some ⟨b,o,none⟩) k.t.length k.cap] k.Tt:=by rw [<- hta]; exact s8.bt
   have hG1:G * 1 <= G * (rows ks).length:=Nat.mul_le_mul_left _ (by omega);simp only [Nat.mul_add,Nat.mul_one] at hl8 hG1;refine as' τok (fun z=>Kp v7.ownBlock.toList w8 z) ?_;refine rV τok (rg 0 5) 3 (mR 8 5) ((Kp.refl _ w8).dr _) ?_;refine ldQ (fun z hz=>(s8.bu.cl rfl).kp hz (nf8 _ (by simp [Wk.bl]))) ?_;refine ldQ (fun z hz=>(hbt8.cl rfl).kp hz (nf8 _ (by simp [Wk.bl]))) ?_;refine ldQ (fun z hz=>(s8.ba.cl rfl).kp hz (nf8 _ (by simp [Wk.bl]))) ?_;refine ix p7 rfl hflt ?_;refine fN' [iV f.op,iV f.a,iV f.b] rfl (fun z hz j v hj=>(hK.subX s8.own s8.sub hz fun b hb=>(s8.own.block b (by simpa using hb)).1) _ _ _ (hcf j v hj)) ?_;refine nV τok 5 2 (mR 8 6) ?_;refine fill [iV f.op,iV f.a,iV f.b] rfl ?_;refine new fun bx w9 hbx hX hs9 hk9=>?_;have hk9:Kp [] w8 w9:=hk9.rd;refine ⟨.inl (hk9.weak (by simp)),?_⟩;refine nV τok 6 1 (mR 8 7) ?_;have s9:=s8.kp hK hk9;refine s9.own.ap1 τok rfl rfl (by decide) f [iV f.op,iV f.a,iV f.b] ⟨rfl,j1,j2,j3⟩ (bZ hX) (by omega) (by simp only [maxLen]; omega) fun v10 w10 ho10 hk10 hl10=>?_;have lat10:Lat v7 v10 w9:=fun g hg=>by
    rcases hl10 with q | q
    ·rw [q] at hg; exact .inl hg
    ·rw [q] at hg
     obtain rfl:=JB hg;exact .inr (KJ _)
   refine ⟨.inl ((hk9.weak (by simp)).tq hk10),?_⟩;refine nV τok 7 0 (mR 8 8) ?_;obtain ⟨a10,c10,hv10,_⟩:=ho10.cap;refine st (b:=k.bu) (o:=0) (s9.bu.kp hk10 (nf8 _ (by simp [Wk.bl]))) (by simp) (by rw [hv10]; rfl) fun w11 hb11 hs11 hk11=>?_;refine ⟨.inr (by kernel_rfl),?_⟩;refine dV ?_;have hk10':Kp (v7.ownBlock.toList ++ k.UB) w9 w10:=hk10.weak fun x hx _=>List.mem_append_left _ hx;have s11:=s9.out hK hk10' ho10 lat10 hb11 hk11;have kx10:Kp (k.X v) w2 w10:=Wk.stepX (kx8.tr hk9) lat8 (Wk.weakX hk10' fun x hx=>fw' hx);have kx11:Kp (k.X v) w2 w11:=kx10.trans hk11 fun x hx _=>by
    obtain rfl:x = k.bu:=by simpa using hx
    exact op'
   have lat11:Lat v v10 w2:=lat8.trans (kx8.tr hk9).size lat10;have hu10:=hU _ _ _ _ (hU _ _ _ _ hu8 hk9 (by simp)) hk10 (fun b hb hx=>nf8 b (by simp only [Wk.bl]; exact List.mem_append_right _ hx) hb);have hu11:=hU _ _ _ _ hu10 hk11 (by simpa using uu4);refine ld (s11.ba.cl rfl).cell ?_;refine jK' ((p7 + 1:Nat):Int) (by omega) (by omega) (by simp) ?_;refine st (b:=k.ba) (o:=0) s11.ba (by simp) rfl fun w12 ha12 hs12 hk12=>?_;have s12:=s11.at hK (q:=p7 + 1) ha12 hk12;have hu12:=hU _ _ _ _ hu11 hk12 (by simpa using uu2);have kx12:Kp (k.X v) w2 w12:=kx11.trans hk12 fun x hx _=>by
    obtain rfl:x = k.ba:=by simpa using hx
    exact oo'
   refine ld (s12.bs.cl rfl).cell ?_;have hc1:=ih (row ty).length (by omega) ty (row bo ++ (rows r ++ suf)) w12 (p7 + 1) v10 u7 (l7 ++ [f]) d (KJ _) hty ht9 s12 hu12 (by omega) (by rw [JK]; simp only [JV,JU]; omega);refine ab' hc1 ?_;rintro e w13 he;obtain ⟨r13,hr13⟩:∃ r13,wT one eI' ty d 0 (u7,l7 ++ [f]) = r13:=⟨_,rfl⟩
   rw [hr13] at he hRES;cases r13 with
   | none =>
    obtain ⟨rfl,hk13⟩:=he;exact bad w13 hRES.symm (Wk.stepX kx12 lat11 hk13)
   | some s13 =>
   obtain ⟨u13,l13⟩:=s13;obtain ⟨v13,rfl,s13,hu13,hk13,lat13⟩:=he;simp only at hRES s13 hu13;have kx13:=Wk.stepX kx12 lat11 hk13;have hlen13:=jY' hG hgrow ty _ _ _ _ _ _ hr13;rw [JK] at hlen13;simp only [JV,JU] at hlen13;have lat13':Lat v v13 w2:=lat11.trans kx12.size lat13;have hB13:=hB.kp kx13 (hnew v lat0);refine ld (s13.bs.cl rfl).cell ?_;refine ld (hB13.cl rfl).cell ?_;refine jK' ((d + Bn:Nat):Int) (by omega) (by omega) (by omega) ?_;have ht13:k.t.drop (p7 + 1 + (row ty).length) = row bo ++ (rows r ++ suf):=by rw [<- List.drop_drop,ht9,List.drop_left]
   have hc2:=ih (row bo).length (by omega) bo (rows r ++ suf) w13 (p7 + 1 + (row ty).length) v13 u13 l13 (d + Bn) (KJ _) hbo ht13 s13 hu13 (by omega) (by omega);refine ab' hc2 ?_;rintro e w14 he;obtain ⟨r14,hr14⟩:∃ r14,wT one eI' bo ((d + Bn:Nat):Int) 0 (u13,l13) = r14:=⟨_,rfl⟩
   rw [hr14] at he hRES;cases r14 with
   | none =>
    obtain ⟨rfl,hk14⟩:=he;exact bad w14 hRES.symm (Wk.stepX kx13 lat13' hk14)
   | some s14 =>
   obtain ⟨u14,l14⟩:=s14;obtain ⟨v14,rfl,s14,hu14,hk14,lat14⟩:=he;simp only at hRES s14 hu14;have kx14:=Wk.stepX kx13 lat13' hk14;have hlen14:=jY' hG hgrow bo _ _ _ _ _ _ hr14;have lat14':Lat v v14 w2:=lat13'.trans kx13.size lat14;refine i6 ?_;exact ⟨(i + 1,p7 + 1 + (row ty).length + (row bo).length,v14,u14,l14,r),by simp only; omega,rfl,⟨rfl,rfl,rfl,rfl,rfl,rfl,rfl,rfl,rfl,trivial⟩,by simp only; omega,by simp only; omega,s14,hu14,kx14,lat14',hB.kp kx14 (hnew v lat0),by simpa using hRES,by
    show k.t.drop (p7 + 1 + (row ty).length + (row bo).length) = _;rw [<- List.drop_drop,ht13,List.drop_left],by simp only; omega,by simp only; omega,hokr,hincr,by simp only; omega⟩
  ·have h12:¬ n.op = 12:=h12
   by_cases h2:n.op = 2
   ·exfalso
    rw [hkk2 h2] at g;simp at g;omega
   have hoy:Ok .tm y:=by
    rwa [show nx Md.tm n 0 = .tm by simp [nx,h2,h12]] at hoy
   have hbd:=li' n i;obtain ⟨e1,he1⟩:∃ e1:Nat,(d:Int) + aJ' n i = e1:=⟨((d:Int) + aJ' n i).toNat,by omega⟩
   have hy13:y.n.op ≠ 13:=by
    obtain ⟨m,l⟩:=y;exact hoy.tm.2.2
   rw [eR' h13,he1,ta' hy13 _ n.b 0] at hRES;refine cO' τok (fun z=>Kp [] w8 z) ?_;refine rP τok (rg 0 4) 3 (mR 7 4) (kQd w8) ?_;refine ldQ (fun z hz=>(s8.bs.cl rfl).kp hz (by simp)) ?_;refine fN' [iV n.op,iV n.a,iV n.b] rfl (fun z hz j v hj=>by rw [KW]; exact (hB8.cl hj).kp hz (by simp)) ?_;refine am' τok 4 2 (mR 7 5) rfl rfl rfl (by kernel_rfl) ?_;refine ab' (gF' n i _) ?_;rintro e w9 ⟨rfl,hk9⟩;have k89:Kp [] w8 w9:=hk9.rd;have s9:=s8.kp hK k89;refine ⟨.inl k89,?_⟩;refine am' τok 5 1 (mR 7 6) rfl rfl rfl (by kernel_rfl) ?_;refine jK' (e1:Int) (by omega) (by omega) (by omega) ?_;refine ⟨.inl k89,?_⟩;refine am' τok 6 0 (mR 7 7) rfl rfl rfl (by kernel_rfl) ?_;have hc:=ih (row y).length (by omega) y (rows r ++ suf) w9 p7 v7 u7 l7 e1 (KJ _) hoy ht8 s9 (hU _ _ _ _ hu8 k89 (by simp)) (by omega) (by omega);refine ab' hc ?_;rintro e w10 he;obtain ⟨r10,hr10⟩:∃ r10,wT one eI' y e1 0 (u7,l7) = r10:=⟨_,rfl⟩
   rw [hr10] at he hRES;cases r10 with
   | none =>
    obtain ⟨rfl,hk10⟩:=he;exact ⟨rfl,bad w10 hRES.symm (Wk.stepX (kx8.tr k89) lat8 hk10)⟩
   | some s10 =>
    obtain ⟨u10,l10⟩:=s10;obtain ⟨v10,rfl,s10,hu10,hk10,lat10⟩:=he;simp only at hRES s10 hu10;refine ⟨.inr (by kernel_rfl),?_⟩;refine dP ?_;have kx10:=Wk.stepX (kx8.tr k89) lat8 hk10;have hlen:=jY' hG hgrow y _ _ _ _ _ _ hr10;have lat10':Lat v v10 w2:=lat8.trans (kx8.tr k89).size lat10;refine i6 ?_;exact ⟨(i + 1,p7 + (row y).length,v10,u10,l10,r),by simp only; omega,rfl,⟨rfl,rfl,rfl,rfl,rfl,rfl,rfl,rfl,rfl,trivial⟩,by simp only; omega,by simp only; omega,s10,hu10,kx10,lat10',hB.kp kx10 (hnew v lat0),by simpa using hRES,by
     show k.t.drop (p7 + (row y).length) = _;rw [<- List.drop_drop,ht8,List.drop_left],by simp only; omega,by simp only; omega,hokr,hincr,by simp only; omega⟩
 ·have g:¬ (i:Int) < kk.length:=g
  have hr0:rest = []:=List.length_eq_zero_iff.1 (by omega);subst hr0;simp only [wK] at hRES;simp only [rows,JU,Nat.add_zero] at hQ8;rw [hQ8];rw [hQ8] at fin;exact fin w8 v7 u7 l7 hRES.symm s8 hu8 kx8 lat8
end
end Go.Proofs.YtpealcfjbcpoiaaGreat
namespace Go.Wx
def lv (P:Program) (rs:List ResultVar) (R:Ending -> World -> Prop) (u:FrameMode) (s:St) (w:World):Prop :=
 ∃ fv cap dargs f args,s.d = [{ target:=.fn fv cap,args:=dargs }] /\ u ≠ .run /\ (invoke (.fn fv cap) dargs).run P w = .ok (.enter f args) w /\
  CallsD P f args u w fun e u' w'=>(∃ v,e = .returned v) /\ settle u' = .returning /\ qw' P s rs w' fun vs=>R (.returned (one vs)) w'
def fnKD (P:Program) (rs:List ResultVar) (R:Ending -> World -> Prop):Exit -> St -> World -> Prop
 | .normal,s,w=>lv P rs R .returning s w
 | .ret,s,w=>lv P rs R .returning s w
 | .panic ch,s,w=>lv P rs R (.panicking ch) s w
 | _,_,_=>False
theorem gH' {P:Program} {fn:Func} {R:Ending -> World -> Prop} {u:FrameMode} {s:St} {w:World} {a:Act} {n:Nat} (hF:Fr n a s) (h:lv P fn.results.toList R u s w):Leaves P fn a.tmps R a.defers u w:=by
 obtain ⟨fv,cap,dargs,f,args,hd,hu,hi,hc⟩:=h;rw [hF.defers,hd];refine leaves_cons hu hi (hc.mono ?_);rintro e u' w' ⟨⟨v,rfl⟩,hset,hr⟩;obtain ⟨vs,h1,h2⟩:=cE' hF hr;simp only [hset];exact ⟨_,h1,h2⟩
theorem ef' {P:Program} {τ:Tau} {f:FuncId} {fn:Func} {c:Code} {args:List Value} {w:World} {R:Ending -> World -> Prop} (n:Nat) (rs:List ResultVar) (hτ:ax' P τ)
  (hf:P.funcs[f]? = some fn) (hb:fn.body = some c) (hn:fn.ntmps = n) (hrs:fn.results.toList = rs) (hle:args.length <= n)
  (h:wpx P τ n c ⟨ini args 0,[]⟩ w (fnKD P rs R)):Calls P f args.toArray w R:=by
 subst hn hrs;refine calls_of_wp_defers hf hb ?_;have hF:Fr fn.ntmps { tmps:=args.toArray ++ Array.replicate (fn.ntmps - args.toArray.size) undef,defers:=[] } ⟨ini args 0,[]⟩:=by
  refine ⟨by simp; omega,rfl,fun t v ht=>?_⟩;obtain ⟨_,h2⟩:=iM' _ _ _ _ ht;rw [Nat.sub_zero] at h2;have hlt:t < args.length:=(List.getElem?_eq_some_iff.1 h2).1;rw [Array.getElem?_append_left (by simpa using hlt)]
  simpa using h2
 refine Go.wp_mono (aX' hτ c _ w _ h _ hF) fun e a' w' hl=>?_;obtain ⟨s,hF',hs⟩:=hl;cases e with
 | normal=>exact gH' hF' hs
 | ret=>exact gH' hF' hs
 | panic ch=>exact gH' hF' hs
 | outgrown=>exact hs.elim
 | exit id=>exact hs.elim
 | goto l=>exact hs.elim
theorem oq':∀ {l:List (Nat × Value)} {t:Nat} {v:Value},get l t = some v -> (t,v) ∈ l
 | [],t,v,h=>by simp [kZ'] at h
 | (i,u) :: r,t,v,h=>by
  simp only [gj'] at h;cases hb:Nat.beq i t with
  | true =>
   rw [hb] at h;have e:=Nat.eq_of_beq_eq_true hb;subst e;have:u = v:=by simpa using h
   subst this;exact List.mem_cons_self
  | false =>
   rw [hb] at h;exact List.mem_cons_of_mem _ (oq' h)
theorem ll' {n:Nat} {a:Act} {l:List (Nat × Value)} (h1:a.tmps.size = n) (h2:a.defers = []) (h:∀ q ∈ l,a.tmps[q.1]? = some q.2):Fr n a ⟨l,[]⟩ :=
 ⟨h1,h2,fun t v ht=>h _ (oq' ht)⟩
theorem qI' {P:Program} {fn:Func} {c₀:Frame} {cs:List Frame} {R:Ending -> FrameMode -> World -> Prop} {u:FrameMode} {n:Nat} {a:Act} {s:St} {w:World} (hF:Fr n a s) (hd:s.d = []) (hr:fn.results = #[]) (hu:c₀.mode = u) (h:R (.returned (.tuple #[])) u w) :
  bodyPostS P fn c₀ cs R .normal a (c₀ :: cs) w:=by
 refine ⟨hF.defers.trans hd,u,?_,.tuple #[],?_,h⟩
 ·subst hu; rfl
 ·simp [results,hr]
theorem or' {P:Program} {fn:Func} {c₀:Frame} {cs:List Frame} {R:Ending -> FrameMode -> World -> Prop} {u:FrameMode} {n:Nat} {a:Act} {s:St} {w:World} (hF:Fr n a s) (hd:s.d = []) (hr:fn.results = #[]) (h:R (.returned (.tuple #[])) u w) :
  bodyPostS P fn c₀ cs R .normal a ({ c₀ with mode:=u } :: cs) w:=by
 refine ⟨hF.defers.trans hd,u,rfl,.tuple #[],?_,h⟩;simp [results,hr]
theorem qJ' {P:Program} {T e:TypeId} {w:World} {b:Nat} {v:Value} {K:Value -> Prop} (hu:P.underlying T = some (.slice e)) (h:Cl w.heap b 0 v) (hk:K v):EvRun P (loadVar T ⟨b,0,none⟩) w fun v w'=>w' = w /\ K v:=by
 refine run (v:=v) (w':=w) ?_ ⟨rfl,hk⟩;have hc:=h.cell;simp [loadVar,isAgg,run_underlying hu,load,Sem.run,hc]
theorem ia' {P:Program} {T:TypeId} {j:IntKind} {w:World} {b:Nat} {v:Value} {K:Value -> Prop} (hu:P.underlying T = some (.int j)) (h:Cl w.heap b 0 v) (hk:K v):EvRun P (loadVar T ⟨b,0,none⟩) w fun v w'=>w' = w /\ K v:=by
 refine run (v:=v) (w':=w) ?_ ⟨rfl,hk⟩;have hc:=h.cell;simp [loadVar,isAgg,run_underlying hu,load,Sem.run,hc]
end Go.Wx
namespace Go.Proofs.YtpealcfjbcpoiaaGreat
open Go.Wx Cd Tm
theorem qK' (br be:Nat) (w:World) :
  CallsD Tryz.prog 45 #[pt br,pt be] .returning w fun e u' w'=>(∃ v,e = .returned v) /\ u' = .returning /\ Kp [] w w':=by
 refine callsD_of_wpS Tryz.func45 rfl fun c₀ cs hu=>?_;apply wpS_seq;apply wpS_region;simp [wpOpsS,go_sem,recoverD,hu,Exit.thenS,Instr.typeAssert,Tryz.underlying68,Tryz.zeroValue68];refine wpS_of_wp (Go.wp_mono (aX' τok (n:=12) _ ⟨[(0,pt br),(1,pt be),(2,pt w.heap.size),(3,.bool false)],[]⟩ _ (fun e s w'=>e = .normal /\ s.d = [] /\ Kp [] w w') ?_ _ (ll' (by simp) rfl ?_)) ?_)
 ·exact ⟨rfl,rfl,Kp.alloc _ _⟩
 ·intro q hq
  simp only [JJ,JZ,or_false] at hq;rcases hq with rfl | rfl | rfl | rfl <;> simp
 ·rintro e a' w' ⟨s,hF,rfl,hd,hk⟩
  exact qI' hF hd rfl hu ⟨⟨_,rfl⟩,rfl,hk⟩
theorem ot' {w:World} {br be Tr Te:Nat} {vr ve:Value} (hr:Bk w.heap br [vr] Tr) (he:Bk w.heap be [ve] Te) (hne:br ≠ be) (er:Int) :
  CallsD Tryz.prog 45 #[pt br,pt be] (.panicking (qG' er)) w fun e u' w'=>(∃ v,e = .returned v) /\ settle u' = .returning /\ Bk w'.heap br [.slice none 0 0] Tr /\ Bk w'.heap be [iV er] Te /\ Kp [br,be] w w':=by
 refine callsD_of_wpS Tryz.func45 rfl fun c₀ cs hu=>?_;apply wpS_seq;apply wpS_region;simp [wpOpsS,go_sem,recoverD,hu,Exit.thenS,Instr.typeAssert,Tryz.underlying68,Tryz.zeroValue68];refine wpS_of_wp (Go.wp_mono (aX' τok (n:=12) _ ⟨[(0,pt br),(1,pt be),(2,pt w.heap.size),(3,.bool true)],[]⟩ _ (fun e s w'=>e = .normal /\ s.d = [] /\ Bk w'.heap br [.slice none 0 0] Tr /\ Bk w'.heap be [iV er] Te /\ Kp [br,be] w w') ?_ _ (ll' (by simp) rfl ?_)) ?_)
 ·have hk1:Kp [] w (w.alloc (Obj.cells #[Value.int IntKind.i64 er] 68)):=Kp.alloc _ _
  have hB2:Bk (w.alloc (Obj.cells #[Value.int IntKind.i64 er] 68)).heap w.heap.size [iV er] 68:=by
   show (w.heap.push _)[_]? = _;simp
  obtain ⟨w1,hw1⟩:∃ w1,w1 = w.alloc (Obj.cells #[Value.int IntKind.i64 er] 68):=⟨_,rfl⟩
  obtain ⟨b2,hb2⟩:∃ b2,b2 = w.heap.size:=⟨_,rfl⟩
  rw [<- hw1] at hk1 hB2 ⊢;rw [<- hb2] at hB2 ⊢;have hr1:=hr.kp hk1 (by simp);have he1:=he.kp hk1 (by simp);have hbr:=hr.lt;have hbe:=he.lt;refine as' τok (fun z=>Bk z.heap b2 [iV er] 68) ?_;refine rV τok [0,1] 2 (mR 4 2) hB2 ?_;refine ldQ (fun z hz=>hz.cl rfl) ?_;refine nV τok 2 1 (mR 4 3) ?_;refine st (b:=br) (o:=0) hr1 (by simp) rfl fun w2 hr2 hs2 hk2=>?_;have hk2:Kp [br] w1 w2:=hk2.rd;refine ⟨.inl (hB2.kp hk2 (by simp; omega)),?_⟩;refine nV τok 3 0 (mR 4 4) ?_;refine st (b:=be) (o:=0) (he1.kp hk2 (by simpa using Ne.symm hne)) (by simp) rfl fun w3 he3 hs3 hk3=>?_;refine ⟨.inr (by kernel_rfl),?_⟩;refine dV ?_;exact ⟨rfl,rfl,hr2.kp hk3 (by simpa using hne),he3,((hk1.weak (by simp)).trans hk2 (fun x hx _=>by simp at hx; simp [hx])).trans hk3 (fun x hx _=>by simp at hx; simp [hx])⟩
 ·intro q hq
  simp only [JJ,JZ,or_false] at hq;rcases hq with rfl | rfl | rfl | rfl <;> simp
 ·rintro e a' w' ⟨s,hF,rfl,hd,hk⟩
  exact or' hF hd rfl ⟨⟨_,rfl⟩,rfl,hk⟩
section
variable {σ:Type}
def wc' (lo:Nat) (UB:List Nat) (U:World -> σ -> Prop) (er:Int) (w:World) (v:Value):Option (σ × List Nd) -> Ending -> World -> Prop
 | some s,e,w'=>∃ v',e = .returned (.tuple #[v',iV 0]) /\ Own rNd 45 lo w' v' s.2 /\ U w' s.1 /\ Kp (v.ownBlock.toList ++ UB) w w' /\ Lat v v' w
 | none,e,w'=>e = .returned (.tuple #[.slice none 0 0,iV er]) /\ Kp (v.ownBlock.toList ++ UB) w w'
theorem lm' {C:Mem} {lo:Nat} {UB:List Nat} {f:Nat} {caps:Array Value} (U:World -> σ -> Prop) (one:σ × List Nd -> Nd -> Int -> Option (σ × List Nd)) (M:Nat) (er:Int) (G:Nat) (hG:1 <= G) (hM:M <= 1099511627776)
  (hold:∀ b o v,C b o v -> b < lo) (hUl:∀ b ∈ UB,lo <= b) (hUn:UB.Nodup)
  (hU:∀ w w' u X,U w u -> Kp X w w' -> (∀ b ∈ X,b ∉ UB) -> U w' u) (hOne:∀ k:Wk,k.f = f -> k.caps = caps -> k.UB = UB -> k.lo = lo -> k.One C U one M er) (hgrow:∀ u l n d u' l',one (u,l) n d = some (u',l') -> l'.length <= l.length + G)
  (x:Tr) (hx:Ok .tm x) (ta:Option Addr) (cap:Nat) (hsl:Sl rNd C ta (row x)) (hcap:(row x).length <= cap) (hlen:(row x).length <= 20000) (w:World) (hS:Sub C w) (hlo:lo <= w.heap.size) (v0:Value) (l0:List Nd) (hown:Own rNd 45 lo w v0 l0)
  (hfar:∀ g,v0.ownBlock = some g -> g ∉ UB) (hUs:XL UB w) (u:σ) (hu:U w u) (hl:l0.length + G * (row x).length <= M) :
  CC 23 #[.slice ta (row x).length cap,v0,.func (.func f) #[] caps] w (wc' lo UB U er w v0 (wT one eI' x 0 0 (u,l0))):=by
 refine oF Tryz.func23 ?_;obtain ⟨a0,c0,rfl,_⟩:=hown.cap;refine ef' (args:=[_,_,_]) 15 [.cell 6 29,.cell 7 36] τok Tryz.func23 rfl rfl rfl (Nat.le_of_ble_eq_true rfl) ?_;refine new fun bt w1 hbt hT1 hs1 hk1=>?_;refine new fun bu w2 hbu hU2 hs2 hk2=>?_;refine new fun bo w3 hbo hO3 hs3 hk3=>?_;refine new fun br w4 hbr hR4 hs4 hk4=>?_;refine new fun be w5 hbe hE5 hs5 hk5=>?_;refine new fun ba w6 hba hA6 hs6 hk6=>?_;refine st (b:=ba) (o:=0) hA6 (by simp) rfl fun w7 hA7 hs7 hk7=>?_;refine new fun bs w8 hbs hS8 hs8 hk8=>?_;refine st (b:=bs) (o:=0) hS8 (by simp) rfl fun w9 hS9 hs9 hk9=>?_;have k05:=(((hk1.tr hk2).tr hk3).tr hk4).tr hk5;have k57:Kp [] w5 w7:=hk6.newSt hba hk7;have k79:Kp [] w7 w9:=hk8.newSt hbs hk9;have k09:=(k05.tr k57).tr k79;have k59:=k57.tr k79;obtain ⟨k,hk⟩:∃ k:Wk,k = { bt:=bt,ba:=ba,bo:=bo,bu:=bu,bs:=bs,Tt:=29,Ta:=3,To:=69,Tu:=29,Ts:=92,ta:=ta,cap:=cap,t:=row x,f:=f,caps:=caps,UB:=UB,lo:=lo }:=⟨_,rfl⟩
 have hK:k.Ok C:=by
  subst hk;refine ⟨hold,hsl,hcap,?_,?_⟩
  ·intro b hb
   simp only [Wk.bl,List.cons_append,List.nil_append,JJ] at hb;rcases hb with rfl | rfl | rfl | rfl | rfl | hb
   ·show lo <= _; omega
   ·show lo <= _; omega
   ·show lo <= _; omega
   ·show lo <= _; omega
   ·show lo <= _; omega
   ·exact hUl b hb
  ·refine List.nodup_append.2 ⟨by simp; omega,hUn,fun a ha b hb hab=>?_⟩
   subst hab;have:=hUs a hb;simp only [JJ,JZ,or_false] at ha;omega
 have hfar':∀ g,(Value.slice a0 l0.length c0).ownBlock = some g -> g ∉ k.bl:=fun g hg hx=>by
  have:=(hown.block g hg).2;subst hk;simp only [Wk.bl,List.cons_append,List.nil_append,JJ] at hx;rcases hx with rfl | rfl | rfl | rfl | rfl | hx
  ·omega
  ·omega
  ·omega
  ·omega
  ·omega
  ·exact hfar g hg hx
 have hst:k.St C w9 0 (Value.slice a0 l0.length c0) l0:=by
  subst hk;refine ⟨hS.tr k09,hT1.kp ((((hk2.tr hk3).tr hk4).tr hk5).tr k59) (by simp),hA7.kp k79 (by simp),hO3.kp ((hk4.tr hk5).tr k59) (by simp),hU2.kp (((hk3.tr hk4).tr hk5).tr k59) (by simp),hS9,hown.kp k09,hfar',xU hUs k09⟩
 have hu9:=hU _ _ _ _ hu k09 (by simp);have hcall:=qH' hK U one M er G hG hM (by subst hk; exact hU) (hOne k (by subst hk; rfl) (by subst hk; rfl) (by subst hk; rfl) (by subst hk; rfl)) hgrow (row x).length x [] w9 0 (Value.slice a0 l0.length c0) u l0 0 (KJ _) hx (by subst hk; simp) hst hu9 (by omega) hl;have hXs:k.X (Value.slice a0 l0.length c0) = ba :: bu :: ((Value.slice a0 l0.length c0).ownBlock.toList ++ UB):=by subst hk; rfl
 have hkbt:k.bt = bt:=by rw [hk]
 have hkba:k.ba = ba:=by rw [hk]
 have hkbo:k.bo = bo:=by rw [hk]
 have hkbu:k.bu = bu:=by rw [hk]
 have hkbs:k.bs = bs:=by rw [hk]
 have hklo:k.lo = lo:=by rw [hk]
 rw [hkbt,hkba,hkbo,hkbu,hkbs] at hcall;refine ld (hS9.cl rfl).cell ?_;refine ab' hcall ?_;rintro e w10 he;have hR9:=hR4.kp (hk5.tr k59) (by simp);have hE9:=hE5.kp k59 (by simp);have hne:br ≠ be:=by omega
 have nin:∀ b,w.heap.size <= b -> b ≠ ba -> b ≠ bu -> b ∉ k.X (Value.slice a0 l0.length c0):=fun b hb h1 h2 hx=>by
  rw [hXs] at hx;simp only [JJ,JW] at hx;rcases hx with hx | hx | hx | hx
  ·exact h1 hx
  ·exact h2 hx
  ·have:=(hown.block b (by simpa using hx)).2
   omega
  ·have:=hUs b hx
   omega
 obtain ⟨RES,hRES⟩:∃ r,wT one eI' x 0 0 (u,l0) = r:=⟨_,rfl⟩
 rw [hRES];rw [show ((0:Nat):Int) = 0 from rfl,hRES] at he;have kfin:∀ {w'},Kp (k.X (Value.slice a0 l0.length c0)) w9 w' -> Kp ((Value.slice a0 l0.length c0).ownBlock.toList ++ UB) w w':=fun h=>(k09.weak (by simp)).trans h fun x hx hlt=>by
  rw [hXs] at hx;simp only [JJ] at hx;rcases hx with hx | hx | hx
  ·omega
  ·omega
  ·exact hx
 cases RES with
 | none =>
  obtain ⟨rfl,hk10⟩:=he;have hR10:=hR9.kp hk10 (nin br (by omega) (by omega) (by omega));have hE10:=hE9.kp hk10 (nin be (by omega) (by omega) (by omega));refine ⟨_,_,_,45,#[pt br,pt be],rfl,by simp,by simp [go_sem],(ot' hR10 hE10 hne er).mono ?_⟩;rintro e u' w11 ⟨he,hset,hR11,hE11,hk11⟩;refine ⟨he,hset,?_⟩;refine qJ' Tryz.underlying29 (hR11.cl rfl) ?_;refine ia' Tryz.underlying36 (hE11.cl rfl) ?_;refine ⟨rfl,(kfin hk10).trans hk11 fun x hx hlt=>?_⟩;simp only [JJ,JZ,or_false] at hx;omega
 | some s =>
  obtain ⟨u1,l1⟩:=s;obtain ⟨v1,rfl,s1,hu1,hk10,lat1⟩:=he;simp only at s1 hu1;have hR10:=hR9.kp hk10 (nin br (by omega) (by omega) (by omega));have hE10:=hE9.kp hk10 (nin be (by omega) (by omega) (by omega));have hbu10:=s1.bu;rw [hkbu] at hbu10;have ho10:=s1.own;rw [hklo] at ho10;obtain ⟨a1,c1,hv1,_⟩:=ho10.cap;refine ld (hbu10.cl rfl).cell ?_;refine st (b:=br) (o:=0) hR10 (by simp) (by rw [hv1]; rfl) fun w11 hR11 hs11 hk11=>?_;refine st (b:=be) (o:=0) (hE10.kp hk11 (by simpa using Ne.symm hne)) (by simp) rfl fun w12 hE12 hs12 hk12=>?_;refine ⟨_,_,_,45,#[pt br,pt be],rfl,by simp,by simp [go_sem],(qK' br be w12).mono ?_⟩;rintro e u' w13 ⟨he,rfl,hk13⟩;refine ⟨he,rfl,?_⟩;have hR13:=(hR11.kp hk12 (by simpa using hne)).kp hk13 (by simp);have hE13:=hE12.kp hk13 (by simp);refine qJ' Tryz.underlying29 (hR13.cl rfl) ?_;refine ia' Tryz.underlying36 (hE13.cl rfl) ?_;have k1013:Kp [br,be] w10 w13:=((hk11.weak (by simp)).trans hk12 (fun x hx _=>by simp at hx; simp [hx])).tr hk13;have hfr:∀ g,v1.ownBlock = some g -> g ∉ [br,be]:=fun g hg hx=>by
   have hsz:=hk10.size;have b1:=hR9.lt;have b2:=hE9.lt;simp only [JJ,JZ,or_false] at hx;rcases lat1 g hg with q | q
   ·have:=(hown.block g q).2
    omega
   ·omega
  refine ⟨v1,rfl,ho10.kpG cy' k1013 hfr,hU _ _ _ _ hu1 k1013 (fun b hb hx=>by
   have:=hUs b hx;simp only [JJ,JZ,or_false] at hb;omega),(kfin hk10).trans k1013 (fun x hx hlt=>by
   simp only [JJ,JZ,or_false] at hx;omega),fun g hg=>(lat1 g hg).imp id fun q=>KQ k09.size q⟩
end
theorem te' (a b c:Value) (l:List Value):((#[]:Array Value) ++ [a,b,c].toArray ++ l.toArray) = (a :: b :: c :: l).toArray:=by simp
theorem tf' (v:Value) (w:World):(Instr.makeInterface 68 v).run Tryz.prog w = .ok (.iface 68 v) w:=by
 simp [Instr.makeInterface,Tryz.underlying68,go_sem]
def IsTm (x:Tr) (w w':World) (v:Value):Prop:=∃ a c,v = .slice a (row x).length c /\ Sl rNd (New w.heap.size w') a (row x) /\ (row x).length <= c
theorem Own.isTm {x:Tr} {w w':World} {v:Value} (h:Own rNd 45 w.heap.size w' v (row x)) (hl:(row x).length <= 1099511627776):IsTm x w w' v:=by
 obtain ⟨a1,c1,hv1,hcap⟩:=h.cap;obtain ⟨a2,c2,hv2,hs2⟩:=h.den hl;rw [hv1] at hv2;injection hv2 with e1 e2 e3
 subst e1 e3;exact ⟨a1,c1,hv1,hs2,hcap⟩
theorem IsTm.kp {x:Tr} {w w' w2:World} {v:Value} {X:List Nat} (h:IsTm x w w' v) (k:Kp X w' w2) (hX:XL X w):IsTm x w w2 v:=by
 obtain ⟨a,c,h1,h2,h3⟩:=h;exact ⟨a,c,h1,h2.mono fun b o t ht=>⟨ht.1,ht.2.kp k fun hx=>by have:=hX b hx; have:=ht.1; omega⟩,h3⟩
theorem IsTm.up {x:Tr} {w0 w w':World} {v:Value} (h:IsTm x w w' v) (k:w0.heap.size <= w.heap.size):IsTm x w0 w' v:=by
 obtain ⟨a,c,h1,h2,h3⟩:=h;exact ⟨a,c,h1,h2.mono fun b o t ht=>⟨KQ k ht.1,ht.2⟩,h3⟩
def uN' (bf bb:Nat) (fr by_:Int) (w:World) (_:Unit):Prop:=Bk w.heap bf [iV fr] 3 /\ Bk w.heap bb [iV by_] 3
theorem no' {C:Mem} {bf bb:Nat} {fr by_:Int} {M:Nat} (hf:0 <= fr /\ fr <= 4194304) (hb:0 <= by_ /\ by_ <= 9223372036854775807) (hM:M <= 1099511627776) (k:Wk) (kf:k.f = 24) (kc:k.caps = #[pt bf,pt bb]) (kU:k.UB = [bf,bb]) :
  k.One C (uN' bf bb fr by_) (gb' (cH' by_ fr)) M 6:=by
 intro w v u l n d i1 i2 i3 hp hd hl hS hO hfar hu;rw [kf,kc,show (#[pt bf,pt bb]:Array Value) = [pt bf,pt bb].toArray from rfl,te'];refine oF Tryz.func24 ?_;obtain ⟨hF0,hB0⟩:=hu;have hpb:=ba' hp;have nf:bf ∉ v.ownBlock.toList:=fun hx=>hfar bf (by simpa using hx) (by simp [Wk.bl,kU]);have nb:bb ∉ v.ownBlock.toList:=fun hx=>hfar bb (by simpa using hx) (by simp [Wk.bl,kU]);refine cO (args:=[_,_,_,_,_]) 36 [.tmp 8] τok Tryz.func24 ?_;refine new fun bn w1 hbn hN hs1 hk1=>?_;have hN:Bk w1.heap bn [iV n.op,iV n.a,iV n.b] 45:=hN;have hF1:=hF0.kp hk1 (by simp);have hB1:=hB0.kp hk1 (by simp);have hO1:=hO.kp hk1;have fin:∀ (m:Nd) (w2:World),Bk w2.heap bn [iV m.op,iV m.a,iV m.b] 45 -> I64 m.op -> I64 m.a -> I64 m.b -> Kp [bn] w1 w2 -> True:=fun _ _ _ _ _ _ _=>trivial;refine ld (hN.cl rfl).cell ?_;refine ac' (fun h1=>?_) (fun h1=>?_)
 ·have h1:n.op = 1:=h1
  refine ld (hN.cl rfl).cell ?_;refine ld (hF1.cl rfl).cell ?_;refine i6 ?_;refine ac' (fun h2=>?_) (fun h2=>?_)
  ·have h2:n.a ≥ fr + (d:Int):=h2
   refine ld (hB1.cl rfl).cell ?_;refine ld (hN.cl rfl).cell ?_;refine i6 ?_;refine ac' (fun h3=>?_) (fun h3=>?_)
   ·have h3:by_ > 1048576 - n.a:=h3
    refine run (tf' _ w1) ?_;have:gb' (cH' by_ fr) (u,l) n d = none:=by simp [gb',h1,cH',h2,h3]
    rw [this];exact ⟨rfl,hk1.weak (by simp)⟩
   ·have h3:¬ by_ > 1048576 - n.a:=h3
    refine ld (hN.cl rfl).cell ?_;refine ld (hB1.cl rfl).cell ?_;obtain ⟨z,hz⟩:∃ z,z = n.a + by_:=⟨_,rfl⟩
    refine jK' z (by omega) (by omega) hz.symm ?_;refine st (b:=bn) (o:=1) hN (by simp) rfl fun w2 hN2 hs2 hk2=>?_;have hN2:Bk w2.heap bn [iV n.op,iV z,iV n.b] 45:=hN2;have k02:Kp [] w w2:=hk1.newSt hbn hk2;have hO2:=hO.kp k02;refine ldN [iV n.op,iV z,iV n.b] rfl (bZ hN2) ?_;refine fill [iV n.op,iV z,iV n.b] rfl ?_;refine new fun bx w3 hbx hX hs3 hk3=>?_;refine (hO2.kp hk3).ap1 τok rfl rfl (by decide) { n with a:=z } [iV n.op,iV z,iV n.b] ⟨rfl,i1,by unfold I64; simp only; omega,i3⟩ (bZ hX) (by omega) (by simp only [maxLen]; omega) fun v4 w4 hO4 hk4 hl4=>?_;have:gb' (cH' by_ fr) (u,l) n d = some (u,l ++ [{ n with a:=z }]):=by simp [gb',h1,cH',h2,h3,<- hz,row,rows]
    rw [this];have k03:=k02.tr hk3;refine ⟨v4,rfl,hO4,⟨(hF0.kp k03 (by simp)).kp hk4 nf,(hB0.kp k03 (by simp)).kp hk4 nb⟩,(k03.weak (by simp)).trans hk4 (fun x hx _=>List.mem_append_left _ hx),fun g hg=>?_⟩;rcases hl4 with q | q
    ·rw [q] at hg; exact .inl hg
    ·rw [q] at hg
     obtain rfl:=JB hg;exact .inr k03.size
  ·have h2:¬ n.a ≥ fr + (d:Int):=h2
   refine ldN [iV n.op,iV n.a,iV n.b] rfl (bZ hN) ?_;refine fill [iV n.op,iV n.a,iV n.b] rfl ?_;refine new fun bx w3 hbx hX hs3 hk3=>?_;refine (hO1.kp hk3).ap1 τok rfl rfl (by decide) n [iV n.op,iV n.a,iV n.b] ⟨rfl,i1,i2,i3⟩ (bZ hX) (by omega) (by simp only [maxLen]; omega) fun v4 w4 hO4 hk4 hl4=>?_;have:gb' (cH' by_ fr) (u,l) n d = some (u,l ++ [n]):=by simp [gb',h1,cH',h2,row,rows]
   rw [this];have k03:=hk1.tr hk3;refine ⟨v4,rfl,hO4,⟨(hF0.kp k03 (by simp)).kp hk4 nf,(hB0.kp k03 (by simp)).kp hk4 nb⟩,(k03.weak (by simp)).trans hk4 (fun x hx _=>List.mem_append_left _ hx),fun g hg=>?_⟩;rcases hl4 with q | q
   ·rw [q] at hg; exact .inl hg
   ·rw [q] at hg
    obtain rfl:=JB hg;exact .inr k03.size
 ·have h1:¬ n.op = 1:=h1
  refine ldN [iV n.op,iV n.a,iV n.b] rfl (bZ hN) ?_;refine fill [iV n.op,iV n.a,iV n.b] rfl ?_;refine new fun bx w3 hbx hX hs3 hk3=>?_;refine (hO1.kp hk3).ap1 τok rfl rfl (by decide) n [iV n.op,iV n.a,iV n.b] ⟨rfl,i1,i2,i3⟩ (bZ hX) (by omega) (by simp only [maxLen]; omega) fun v4 w4 hO4 hk4 hl4=>?_;have:gb' (cH' by_ fr) (u,l) n d = some (u,l ++ [n]):=by simp [gb',h1]
  rw [this];have k03:=hk1.tr hk3;refine ⟨v4,rfl,hO4,⟨(hF0.kp k03 (by simp)).kp hk4 nf,(hB0.kp k03 (by simp)).kp hk4 nb⟩,(k03.weak (by simp)).trans hk4 (fun x hx _=>List.mem_append_left _ hx),fun g hg=>?_⟩;rcases hl4 with q | q
  ·rw [q] at hg; exact .inl hg
  ·rw [q] at hg
   obtain rfl:=JB hg;exact .inr k03.size
theorem gI' {U:Type} {h:Int -> Nd -> Option Tr} {G:Nat} (hG:1 <= G) (hg:∀ d n y,h d n = some y -> (row y).length <= G):∀ (u:U) l n d u' l',gb' h (u,l) n d = some (u',l') -> l'.length <= l.length + G:=by
 intro u l n d u' l' e;simp only [gb'] at e;split at e
 ·split at e
  ·cases e
  ·rename_i y hy
   have:=hg d n y hy;simp only [Option.some.injEq,Prod.mk.injEq] at e;rw [<- e.2,JK];omega
 ·simp only [Option.some.injEq,Prod.mk.injEq] at e
  rw [<- e.2];simp;omega
theorem jZ' {by_ fr d:Int} {n:Nd} {y:Tr} (e:cH' by_ fr d n = some y):(row y).length = 1:=by
 simp only [cH'] at e;split at e
 ·split at e
  ·cases e
  ·obtain rfl:=JB e
   rfl
 ·obtain rfl:=JB e
  rfl
theorem ka' {C:Mem} {lo:Nat} (hold:∀ b o v,C b o v -> b < lo) (x:Tr) (hx:Ok .tm x) (ta:Option Addr) (cap:Nat) (hsl:Sl rNd C ta (row x)) (hcap:(row x).length <= cap) (hlen:(row x).length <= 20000) (w:World) (hS:Sub C w) (hlo:lo <= w.heap.size) (v0:Value) (l0:List Nd) (hown:Own rNd 45 lo w v0 l0)
  (hl:l0.length <= 1099511600000) (by_ fr:Int) (hf:0 <= fr /\ fr <= 4194304) (hb:0 <= by_ /\ by_ <= 9223372036854775807) :
  CC 15 #[v0,.slice ta (row x).length cap,iV by_,iV fr] w (fun e w'=>match gc' x by_ fr with
   | some y=>∃ v',e = .returned (.tuple #[v',iV 0]) /\ Own rNd 45 lo w' v' (l0 ++ row y) /\ Kp v0.ownBlock.toList w w' /\ Lat v0 v' w
   | none=>e = .returned (.tuple #[.slice none 0 0,iV 6]) /\ Kp v0.ownBlock.toList w w'):=by
 refine oF Tryz.func15 ?_;obtain ⟨a0,c0,rfl,_⟩:=hown.cap;refine cO (args:=[_,_,_,_]) 16 [.tmp 8,.tmp 9] τok Tryz.func15 ?_;refine new fun bb w1 hbb hB hs1 hk1=>?_;refine new fun bf w2 hbf hF hs2 hk2=>?_;have k02:=hk1.tr hk2;have hblk:=hown.block;have hw:=lm' (C:=C) (lo:=lo) (UB:=[bf,bb]) (f:=24) (caps:=#[pt bf,pt bb]) (uN' bf bb fr by_) (gb' (cH' by_ fr)) 1099511627776 6 1 (KJ _) (KJ _) hold
  (fun b hb=>by simp at hb; omega) (by simp; omega)
  (fun w w' u X h k hX=>⟨h.1.kp k fun hx=>hX _ hx (by simp),h.2.kp k fun hx=>hX _ hx (by simp)⟩)
  (fun k k1 k2 k3 _=>no' hf hb (KJ _) k k1 k2 k3)
  (gI' (KJ _) fun d n y e=>by rw [jZ' e]; exact KJ _)
  x hx ta cap hsl hcap hlen w2 (hS.tr k02) (by have:=k02.size; omega) _ l0 (hown.kp k02) (fun g hg hx=>by
   have:=(hblk g hg).2;simp at hx;omega) (fun b hb=>by simp at hb; omega) () ⟨hF,hB.kp hk2 (by simp)⟩ (by omega)
 rw [vL' x .tm 0 0 () l0 hx.1] at hw;obtain ⟨RES,hRES⟩:∃ r,gc' x by_ fr = r:=⟨_,rfl⟩
 rw [show gT (cH' by_ fr) x 0 0 = gc' x by_ fr from rfl,hRES] at hw;rw [hRES];refine ab' hw ?_;rintro e w3 he;have kx:∀ {w'},Kp ((Value.slice a0 l0.length c0).ownBlock.toList ++ [bf,bb]) w2 w' -> Kp (Value.slice a0 l0.length c0).ownBlock.toList w w':=fun h=>(k02.weak (by simp)).trans h fun x hx hlt=>by
  rcases List.mem_append.1 hx with hx | hx
  ·exact hx
  ·simp at hx
   omega
 cases RES with
 | none =>
  obtain ⟨rfl,hk3⟩:=he;exact ⟨rfl,kx hk3⟩
 | some y =>
  obtain ⟨v3,rfl,ho3,_,hk3,hl3⟩:=he;exact ⟨v3,rfl,ho3,kx hk3,fun g hg=>(hl3 g hg).imp id fun q=>KQ k02.size q⟩
end Go.Proofs.YtpealcfjbcpoiaaGreat
namespace Tm
open Go Go.Wx Cd
mutual
def varsT:Tr -> Int -> Int -> List (Int × Int)
 | .mk n ks,d,nb=>if n.op = 1 then [(n.a,d)] else varsK ks n nb 0 d
def varsK:List Tr -> Nd -> Int -> Int -> Int -> List (Int × Int)
 | [],_,_,_,_=>[]
 | x :: r,n,nb,k,d=>varsT x (d + arC n nb k) n.b ++ varsK r n nb (k + 1) d
end
section
variable {S:Type} (met:S -> Int -> Int -> S × Bool)
def kb' (p:Bool × S) (a d:Int):Bool × S:=if p.1 = true then p else ((met p.2 a d).2,(met p.2 a d).1)
def dk' (p:Bool × S):List (Int × Int) -> Bool × S
 | []=>p
 | q :: r=>dk' (kb' met p q.1 q.2) r
theorem ou' (p:Bool × S) (l m:List (Int × Int)):dk' met p (l ++ m) = dk' met (dk' met p l) m:=by
 induction l generalizing p with
 | nil=>rfl
 | cons q l ih=>exact ih _
def qL' (s:(Bool × S) × List Nd) (n:Nd) (d:Int):Option ((Bool × S) × List Nd):=some (if n.op = 1 then kb' met s.1 n.a d else s.1,s.2)
mutual
theorem wT_e:∀ (x:Tr) (s:Md) (d nb:Int) (p:Bool × S) (l:List Nd),okT cnt nx x s -> ∃ l',wT (qL' met) eI' x d nb (p,l) = some (dk' met p (varsT x d nb),l')
 | .mk n ks,s,d,nb,p,l,hx=>by
  obtain ⟨hc,hk⟩:=hx
  by_cases h1:n.op = 1
  ·have:ks = []:=List.length_eq_zero_iff.1 (ey' hc h1)
   subst this;exact ⟨l,by simp [wT,qL',h1,wK,varsT,dk']⟩
  ·by_cases hr:n.op = 3 \/ n.op = 13
   ·obtain ⟨l',h⟩:=wd' ks n s nb 0 d 0 p (l ++ [n]) hk
    exact ⟨l',by simp only [wT,if_pos hr,eI',varsT,if_neg h1]; exact h⟩
   ·obtain ⟨l',h⟩:=wd' ks n s nb 0 d 0 p l hk
    exact ⟨l',by simp only [wT,if_neg hr,qL',varsT,if_neg h1]; exact h⟩
theorem wd':∀ (ks:List Tr) (n:Nd) (s:Md) (nb k d:Int) (j:Nat) (p:Bool × S) (l:List Nd),okL cnt nx ks n s j -> ∃ l',wK (qL' met) eI' ks n nb k d (p,l) = some (dk' met p (varsK ks n nb k d),l')
 | [],n,s,nb,k,d,j,p,l,_=>⟨l,by simp [wK,varsK,dk']⟩
 | x :: r,n,s,nb,k,d,j,p,l,hk=>by
  obtain ⟨hx,hr⟩:=hk;obtain ⟨l1,h1⟩:=wT_e x (nx s n j) (d + arC n nb k) n.b p l hx;obtain ⟨l2,h2⟩:=wd' r n s nb (k + 1) d (j + 1) (dk' met p (varsT x (d + arC n nb k) n.b)) l1 hr;exact ⟨l2,by simp only [wK,h1,varsK,ou']; exact h2⟩
end
end
theorem eU' (f:Int -> Int -> Bool):∀ (l:List (Int × Int)) (b:Bool),(dk' (fun _ a d=>((),f a d)) (b,()) l).1 = (b || l.any fun q=>f q.1 q.2)
 | [],b=>by simp [dk']
 | q :: r,b=>by
  cases b with
  | true =>
   simp only [dk',kb',if_true,Bool.true_or];rw [eU' f r true];simp
  | false =>
   simp only [dk',kb',List.any_cons];rw [if_neg (by decide),eU' f r];simp
def im' (x:Tr) (n:Int):Bool:=(varsT x 0 0).all fun q=>decide (q.1 - q.2 < max n 0)
def io' (x:Tr) (v:Int):Int × Int:=(varsT x 0 0).foldl (fun s q=>if q.1 - q.2 = v then (s.1 + 1,max s.2 q.2) else s) (0,0)
mutual
theorem ml':∀ (x:Tr) (d nb:Int),(varsT x d nb).length <= (row x).length
 | .mk n ks,d,nb=>by
  simp only [varsT,row,JV];split
  ·simp
  ·have:=kc' ks n nb 0 d
   omega
theorem kc':∀ (ks:List Tr) (n:Nd) (nb k d:Int),(varsK ks n nb k d).length <= (rows ks).length
 | [],n,nb,k,d=>by simp [varsK,rows]
 | x :: r,n,nb,k,d=>by
  have h1:=ml' x (d + arC n nb k) n.b;have h2:=kc' r n nb (k + 1) d;simp only [varsK,rows,JK];omega
end
theorem iX' (v:Int):∀ (l:List (Int × Int)) (s:Int × Int) (D:Int),0 <= s.1 -> 0 <= s.2 -> s.2 <= D -> (∀ q ∈ l,0 <= q.2 /\ q.2 <= D) -> 0 <= (l.foldl (fun s q=>if q.1 - q.2 = v then (s.1 + 1,max s.2 q.2) else s) s).1 /\ (l.foldl (fun s q=>if q.1 - q.2 = v then (s.1 + 1,max s.2 q.2) else s) s).1 <= s.1 + l.length /\ 0 <= (l.foldl (fun s q=>if q.1 - q.2 = v then (s.1 + 1,max s.2 q.2) else s) s).2 /\ (l.foldl (fun s q=>if q.1 - q.2 = v then (s.1 + 1,max s.2 q.2) else s) s).2 <= D
 | [],s,D,h1,h2,h3,_=>⟨h1,by simp,h2,h3⟩
 | q :: r,s,D,h1,h2,h3,h=>by
  simp only [List.foldl_cons,JV];have hq:=h q (by simp)
  by_cases e:q.1 - q.2 = v
  ·rw [if_pos e]
   have:=iX' v r (s.1 + 1,max s.2 q.2) D (by simp only; omega) (by simp only; omega) (by simp only; omega) (fun q hq=>h q (by simp [hq]));simp only at this;refine ⟨this.1,by omega,this.2.2.1,this.2.2.2⟩
  ·rw [if_neg e]
   have:=iX' v r s D h1 h2 h3 (fun q hq=>h q (by simp [hq]));refine ⟨this.1,by omega,this.2.2.1,this.2.2.2⟩
mutual
theorem gJ':∀ (x:Tr) (s:Md) (d nb:Int),okT cnt nx x s -> 0 <= d -> 0 <= nb -> nb <= 4 -> ∀ q ∈ varsT x d nb,d <= q.2 /\ q.2 <= d + 4 * (row x).length /\ 0 <= q.1 /\ q.1 <= 1048576
 | .mk n ks,s,d,nb,hx,hd,h0,h4,q,hq=>by
  obtain ⟨hc,hk⟩:=hx;simp only [varsT] at hq;split at hq
  ·rename_i h1
   simp only [JJ,JZ,or_false] at hq;subst hq;have hp:ah' n = true:=by
    cases s with
    | tm=>exact (bG' hc).1
    | fn=>exact (fO' hc).1
    | am =>
     simp only [cnt] at hc;split at hc
     ·rename_i q
      exact q.2
     ·cases hc
   have:=ba' hp;simp only [row,JV];omega
  ·have hb:0 <= n.b /\ (n.op = 12 -> n.b <= 4):=by
    have hp:ah' n = true:=by
     cases s with
     | tm=>exact (bG' hc).1
     | fn=>exact (fO' hc).1
     | am =>
      simp only [cnt] at hc;split at hc
      ·rename_i q
       exact q.2
      ·cases hc
    refine ⟨(ba' hp).1,fun h12=>?_⟩;have:inR n.b 1 4 = true:=by simp [ah',h12] at hp; exact hp.1
    exact (aF'.1 this).2
   have:=ov' ks n s nb 0 d 0 hk hd h0 h4 hb q hq;simp only [row,JV];omega
theorem ov':∀ (ks:List Tr) (n:Nd) (s:Md) (nb k d:Int) (j:Nat),okL cnt nx ks n s j -> 0 <= d -> 0 <= nb -> nb <= 4 -> (0 <= n.b /\ (n.op = 12 -> n.b <= 4)) -> ∀ q ∈ varsK ks n nb k d,d <= q.2 /\ q.2 <= d + 4 + 4 * (rows ks).length /\ 0 <= q.1 /\ q.1 <= 1048576
 | [],n,s,nb,k,d,j,_,_,_,_,_,q,hq=>by simp [varsK] at hq
 | x :: r,n,s,nb,k,d,j,hk,hd,h0,h4,hb,q,hq=>by
  obtain ⟨hx,hr⟩:=hk;simp only [varsK,JW] at hq;have ha:0 <= arC n nb k /\ arC n nb k <= 4:=by
   unfold arC;have:=li' n k;split
   ·split <;> omega
   ·omega
  simp only [rows,JK];rcases hq with hq | hq
  ·by_cases h12:n.op = 12
   ·have:=gJ' x (nx s n j) (d + arC n nb k) n.b hx (by omega) hb.1 (hb.2 h12) q hq
    omega
   ·have e:varsT x (d + arC n nb k) n.b = varsT x (d + arC n nb k) 0:=by
     obtain ⟨m,l⟩:=x;have hm13:m.op ≠ 13:=fun h13=>by
      have hm:=hx.1;cases s with
      | tm =>
       have:nx Md.tm n j = .am \/ nx Md.tm n j = .tm:=by
        simp only [nx,if_neg h12];split <;> simp
       rcases this with e | e
       ·rw [e] at hm
        simp [cnt,h13] at hm
       ·rw [e] at hm
        exact (bG' hm).2.2.1 h13
      | fn=>exact (bG' (show cnt .tm m = _ from hm)).2.2.1 h13
      | am =>
       have hm:cnt .am m = _:=hm;simp [cnt,h13] at hm
     simp only [varsT];have:∀ (l:List Tr) (k d nb nb':Int),varsK l m nb k d = varsK l m nb' k d:=by
      intro l
      induction l with
      | nil=>intros; rfl
      | cons y l ih =>
       intro k d nb nb';simp only [varsK,eR' hm13,ih (k + 1) d nb nb']
     rw [this l 0 (d + arC n nb k) n.b 0]
    rw [e] at hq;have:=gJ' x (nx s n j) (d + arC n nb k) 0 hx (by omega) (by omega) (by omega) q hq;omega
  ·have:=ov' r n s nb (k + 1) d (j + 1) hr hd h0 h4 hb q hq
   omega
end
end Tm
namespace Go.Proofs.YtpealcfjbcpoiaaGreat
open Go.Wx Cd Tm
theorem tg' (a b:Value) (l:List Value):((#[]:Array Value) ++ [a,b].toArray ++ l.toArray) = (a :: b :: l).toArray:=by simp
section
variable {S:Type}
def ow' (f:Nat) (caps:Array Value) (MB:List Nat) (US:World -> S -> Prop) (met:S -> Int -> Int -> S × Bool):Prop :=
 ∀ (w:World) (s:S) (a d:Nat),a <= 1048576 -> d <= 100000 -> US w s -> di' Tryz.prog f /\ Calls Tryz.prog f (#[] ++ [iV (a:Int),iV (d:Int)].toArray ++ caps) w (fun e w'=>e = .returned (.bool (met s a d).2) /\ US w' (met s a d).1 /\ Kp MB w w')
def th' (bf bm f:Nat) (caps:Array Value) (US:World -> S -> Prop) (w:World) (p:Bool × S):Prop:=Bk w.heap bf [.bool p.1] 4 /\ Bk w.heap bm [.func (.func f) #[] caps] 130 /\ US w p.2
theorem qM' {C:Mem} {bf bm f M:Nat} {caps:Array Value} {MB:List Nat} {US:World -> S -> Prop} {met:S -> Int -> Int -> S × Bool} (hmet:ow' f caps MB US met) (hUS:∀ w w' s X,US w s -> Kp X w w' -> (∀ b ∈ X,b ∉ MB) -> US w' s)
  (hfm:bf ≠ bm) (hf:bf ∉ MB) (hm:bm ∉ MB) (k:Wk) (kf:k.f = 92) (kc:k.caps = #[pt bf,pt bm]) (kU:k.UB = bf :: bm :: MB) (er:Int) :
  k.One C (th' bf bm f caps US) (qL' met) M er:=by
 intro w v p l n d i1 i2 i3 hp hd hl hS hO hfar hu;rw [kf,kc,show (#[pt bf,pt bm]:Array Value) = [pt bf,pt bm].toArray from rfl,te'];refine oF Tryz.func92 ?_;obtain ⟨fd,s⟩:=p;obtain ⟨hF0,hM0,hs0⟩:=hu;simp only at hF0 hs0;have hpb:=ba' hp;obtain ⟨a,ha⟩:∃ a:Nat,n.a = a:=⟨n.a.toNat,by omega⟩
 have nown:∀ g,v.ownBlock = some g -> g ∉ bf :: bm :: MB:=fun g hg hx=>hfar g hg (by simp only [Wk.bl,kU]; exact List.mem_append_right _ hx);have lat:∀ w',Lat v v w':=fun w' g hg=>.inl hg;obtain ⟨a0,c0,rfl,_⟩:=hO.cap;refine cO (args:=[_,_,_,_,_]) 23 [.tmp 8] τok Tryz.func92 ?_;refine new fun bn w1 hbn hN hs1 hk1=>?_;have hN:Bk w1.heap bn [iV n.op,iV n.a,iV n.b] 45:=hN;have hF1:=hF0.kp hk1 (by simp);have hM1:=hM0.kp hk1 (by simp);have hs1':=hUS _ _ _ _ hs0 hk1 (by simp);have hO1:=hO.kp hk1;refine ld (hF1.cl rfl).cell ?_;have fin:∀ (fd':Bool) (s':S) (w2 w3:World),(if n.op = 1 then kb' met (fd,s) n.a d else (fd,s)) = (fd',s') -> Kp MB w1 w2 -> US w2 s' -> Bk w3.heap bf [.bool fd'] 4 -> Kp [bf] w2 w3 -> wb' k (th' bf bm f caps US) er w (.slice a0 l.length c0) (qL' met ((fd,s),l) n d) (.returned (.slice a0 l.length c0)) w3:=fun fd' s' w2 w3 e h1 h2 h3 h4=>by
  simp only [qL',e];have k02:Kp MB w w2:=(hk1.weak (by simp)).trans h1 (fun x hx _=>hx);refine ⟨_,rfl,?_,⟨h3,((hM1.kp h1 hm).kp h4 (by simpa using Ne.symm hfm)),hUS _ _ _ _ h2 h4 (by simpa using hf)⟩,?_,lat w⟩
  ·exact (hO.kpG cy' k02 fun g hg hx=>nown g hg (List.mem_cons_of_mem _ (List.mem_cons_of_mem _ hx))).kpG cy' h4 fun g hg hx=>by
    obtain rfl:g = bf:=by simpa using hx
    exact nown _ hg List.mem_cons_self
  ·rw [kU]
   exact (k02.weak fun x hx _=>List.mem_append_right _ (List.mem_cons_of_mem _ (List.mem_cons_of_mem _ hx))).trans h4 fun x hx _=>by
    obtain rfl:x = bf:=by simpa using hx
    exact List.mem_append_right _ List.mem_cons_self
 refine br (fun h0=>?_) (fun h0=>?_)
 ·subst h0
  refine st (b:=bf) (o:=0) hF1 (by simp) rfl fun w3 hF3 hs3 hk3=>?_;exact fin true s w1 w3 (by simp [kb']) ((Kp.refl [] w1).weak (by simp)) hs1' hF3 hk3
 ·subst h0
  refine ld (hN.cl rfl).cell ?_;refine ac' (fun h1=>?_) (fun h1=>?_)
  ·have h1:n.op = 1:=h1
   refine ld (hM1.cl rfl).cell ?_;refine ld (hN.cl rfl).cell ?_;rw [ha];refine ab' (hmet w1 s a d (by omega) hd hs1') ?_;rintro e w2 ⟨rfl,hs2,hk2⟩;refine st (b:=bf) (o:=0) (hF1.kp hk2 hf) (by simp) rfl fun w3 hF3 hs3 hk3=>?_;exact fin _ _ w2 w3 (by simp only [h1,if_true,kb',ha]; rw [if_neg (by decide)]) hk2 hs2 hF3 hk3
  ·have h1:¬ n.op = 1:=h1
   refine st (b:=bf) (o:=0) hF1 (by simp) rfl fun w3 hF3 hs3 hk3=>?_;exact fin false s w1 w3 (by rw [if_neg h1]) ((Kp.refl [] w1).weak (by simp)) hs1' hF3 hk3
theorem ln' {C:Mem} {f:Nat} {caps:Array Value} {MB:List Nat} {US:World -> S -> Prop} {met:S -> Int -> Int -> S × Bool} (hmet:ow' f caps MB US met) (hUS:∀ w w' s X,US w s -> Kp X w w' -> (∀ b ∈ X,b ∉ MB) -> US w' s) (hMn:MB.Nodup)
  (lo:Nat) (hold:∀ b o v,C b o v -> b < lo) (x:Tr) (hx:Ok .tm x) (ta:Option Addr) (cap:Nat) (hsl:Sl rNd C ta (row x)) (hcap:(row x).length <= cap) (hlen:(row x).length <= 20000) (w:World) (hS:Sub C w) (hlo:lo <= w.heap.size) (hML:∀ b ∈ MB,lo <= b) (hMs:XL MB w) (s:S) (hs:US w s) :
  CC 67 #[.slice ta (row x).length cap,.func (.func f) #[] caps] w (fun e w'=>e = .returned (.bool (dk' met (false,s) (varsT x 0 0)).1) /\ US w' (dk' met (false,s) (varsT x 0 0)).2 /\ Kp MB w w'):=by
 refine oF Tryz.func67 ?_;refine cO (args:=[_,_]) 10 [.tmp 4] τok Tryz.func67 ?_;refine new fun bm w1 hbm hM1 hs1 hk1=>?_;refine new fun bf w2 hbf hF2 hs2 hk2=>?_;refine st (b:=bf) (o:=0) hF2 (by simp) rfl fun w3 hF3 hs3 hk3=>?_;have k13:Kp [] w1 w3:=hk2.newSt hbf hk3;have k03:=hk1.tr k13;have nm:bm ∉ MB:=fun h=>by have:=hMs _ h; omega
 have nf:bf ∉ MB:=fun h=>by have:=hMs _ h; omega
 have hw:=lm' (C:=C) (lo:=lo) (UB:=bf :: bm :: MB) (f:=92) (caps:=#[pt bf,pt bm]) (th' bf bm f caps US) (qL' met) 1099511627776 6 1 (KJ _) (KJ _) hold
  (fun b hb=>by
   simp only [JJ] at hb;rcases hb with rfl | rfl | hb
   ·omega
   ·omega
   ·exact hML b hb) (by simp only [List.nodup_cons,JJ,not_or]; exact ⟨⟨by omega,nf⟩,nm,hMn⟩)
  (fun w w' u X h k hX=>⟨h.1.kp k fun hx=>hX _ hx (by simp),h.2.1.kp k fun hx=>hX _ hx (by simp),hUS _ _ _ _ h.2.2 k fun b hb hx=>hX b hb (by simp [hx])⟩)
  (fun k k1 k2 k3 _=>qM' hmet hUS (by omega) nf nm k k1 k2 k3 6)
  (fun u l n d u' l' e=>by
   simp only [qL',Option.some.injEq,Prod.mk.injEq] at e;rw [<- e.2];omega)
  x hx ta cap hsl hcap hlen w3 (hS.tr k03) (by have:=k03.size; omega) (.slice none 0 0) [] (Own.nil _ _ (by have:=k03.size; omega)) (fun g hg=>by simp [Value.ownBlock] at hg) (fun b hb=>by
   simp only [JJ] at hb;rcases hb with rfl | rfl | hb
   ·omega
   ·omega
   ·have:=hMs b hb; omega) (false,s) ⟨hF3,hM1.kp k13 (by simp),hUS _ _ _ _ hs k03 (by simp)⟩ (by simp only [JU]; omega)
 obtain ⟨l',hl'⟩:=wT_e met x .tm 0 0 (false,s) [] hx.1;rw [hl'] at hw;obtain ⟨r,hr⟩:∃ r,dk' met (false,s) (varsT x 0 0) = r:=⟨_,rfl⟩
 rw [hr] at hw;rw [hr];refine ab' hw ?_;rintro e w4 ⟨v',rfl,_,⟨hF4,_,hs4⟩,hk4,_⟩;refine ld (hF4.cl rfl).cell ?_;refine ⟨rfl,hs4,(k03.weak (by simp)).trans hk4 fun x hx hlt=>?_⟩;simp only [Value.ownBlock,Option.toList,List.nil_append,JJ] at hx;rcases hx with rfl | rfl | hx
 ·omega
 ·omega
 ·exact hx
end
theorem ox' {n:Int} {bn:Nat} (hn:I64 n):ow' 68 #[pt bn] [bn] (fun w (_:Unit)=>Bk w.heap bn [iV n] 3) (fun _ a d=>((),decide (max n 0 <= a - d))):=by
 intro w s a d ha hd hu;rw [show (#[pt bn]:Array Value) = [pt bn].toArray from rfl,tg'];refine oF Tryz.func68 ?_;refine cO (args:=[_,_,_]) 12 [.tmp 5] τok Tryz.func68 ?_;refine i6 ?_;refine ld (hu.cl rfl).cell ?_;refine ob' ?_;exact ⟨rfl,hu,Kp.refl _ _⟩
theorem gK' (n:Int):∀ l:List (Int × Int),(false || l.any fun q=>decide (max n 0 <= q.1 - q.2)) = !(l.all fun q=>decide (q.1 - q.2 < max n 0))
 | []=>rfl
 | q :: r=>by
  have ih:=gK' n r;simp only [Bool.false_or] at ih;simp only [Bool.false_or,List.any_cons,List.all_cons,ih,Bool.not_and]
  congr 1
  by_cases h:max n 0 <= q.1 - q.2
  ·rw [decide_eq_true h,decide_eq_false (by omega)]
   rfl
  ·rw [decide_eq_false h,decide_eq_true (by omega)]
   rfl
theorem oy' {C:Mem} (x:Tr) (hx:Ok .tm x) (ta:Option Addr) (cap:Nat) (hsl:Sl rNd C ta (row x)) (hcap:(row x).length <= cap) (hlen:(row x).length <= 4096) (w:World) (hS:Sub C w) (hold:∀ b o v,C b o v -> b < w.heap.size) (n:Int) (hn:I64 n) :
  CC 40 #[.slice ta (row x).length cap,iV n] w (fun e w'=>e = .returned (.bool (im' x n)) /\ Kp [] w w'):=by
 refine oF Tryz.func40 ?_;refine cO (args:=[_,_]) 14 [.tmp 4] τok Tryz.func40 ?_;refine new fun bn w1 hbn hN hs1 hk1=>?_;have hsh:=aR' (hS.tr hk1) (row x) ta cap hsl;have h0:bC' (row x) = 0:=by unfold bC'; rw [if_neg (by omega),lf' hx]; rfl
 rw [h0] at hsh;refine ab' hsh ?_;rintro e w2 ⟨rfl,hk2⟩;have k02:=hk1.tr hk2;have hs:=hk2.size;have hw:=ln' (C:=C) (ox' hn) (fun w w' s X h k hX=>h.kp k fun hx=>hX _ hx (by simp)) (by simp) w.heap.size hold x hx ta cap hsl hcap (by omega) w2 (hS.tr k02) k02.size (by simp; omega) (by simp; omega) () (hN.kp hk2 (by simp));have he:(dk' (fun (_:Unit) a d=>((),decide (max n 0 <= a - d))) (false,()) (varsT x 0 0)).1 = !im' x n:=by
  rw [eU' fun a d=>decide (max n 0 <= a - d)];exact gK' n (varsT x 0 0)
 rw [he] at hw;refine ab' hw ?_;rintro e w3 ⟨rfl,_,hk3⟩;refine ⟨by simp [one],(k02.weak (by simp)).trans hk3 fun x hx hlt=>?_⟩;obtain rfl:x = bn:=by simpa using hx
 omega
end Go.Proofs.YtpealcfjbcpoiaaGreat
namespace Tm
open Go Go.Wx Cd
section
variable {h:Int -> Nd -> Option Tr}
mutual
theorem lp':∀ (x:Tr) (s:Md) (d nb:Int),okT cnt nx x s -> (∀ q ∈ varsT x d nb,∀ n:Nd,n.op = 1 -> n.a = q.1 -> (h q.2 n).isSome = true) -> (gT h x d nb).isSome = true
 | .mk n ks,s,d,nb,hx,hh=>by
  obtain ⟨hc,hk⟩:=hx
  by_cases h1:n.op = 1
  ·simp only [gT,h1,if_true]
   exact hh (n.a,d) (by simp [varsT,h1]) n h1 rfl
  ·simp only [gT,if_neg h1]
   have:=oz' ks n s nb 0 d 0 hk (fun q hq=>hh q (by simpa [varsT,h1] using hq));cases e:gK h ks n nb 0 d with
   | none=>rw [e] at this; cases this
   | some ks'=>rfl
theorem oz':∀ (ks:List Tr) (n:Nd) (s:Md) (nb k d:Int) (j:Nat),okL cnt nx ks n s j -> (∀ q ∈ varsK ks n nb k d,∀ n:Nd,n.op = 1 -> n.a = q.1 -> (h q.2 n).isSome = true) -> (gK h ks n nb k d).isSome = true
 | [],n,s,nb,k,d,j,_,_=>rfl
 | x :: r,n,s,nb,k,d,j,hk,hh=>by
  obtain ⟨hx,hr⟩:=hk;have h1:=lp' x (nx s n j) (d + arC n nb k) n.b hx (fun q hq=>hh q (by simp [varsK,hq]));have h2:=oz' r n s nb (k + 1) d (j + 1) hr (fun q hq=>hh q (by simp [varsK,hq]));simp only [gK];cases e1:gT h x (d + arC n nb k) n.b with
  | none=>rw [e1] at h1; cases h1
  | some y =>
   cases e2:gK h r n nb (k + 1) d with
   | none=>rw [e2] at h2; cases h2
   | some r'=>rfl
end
end
def dl' (x:Tr):Prop:=∀ q ∈ varsT x 0 0,q.1 <= 500000
def aq' (x:Tr) (by_ fr:Int):Tr:=(gc' x by_ fr).getD x
theorem bj' {x:Tr} (hx:Ok .tm x) (hs:dl' x) {by_ fr:Int} (hb:by_ <= 500000):gc' x by_ fr = some (aq' x by_ fr):=by
 have h:(gc' x by_ fr).isSome = true:=lp' x .tm 0 0 hx.1 (fun q hq n _ hn=>by
  have:=hs q hq;unfold cH';split
  ·rw [if_neg (by omega)]; rfl
  ·rfl)
 unfold aq';cases e:gc' x by_ fr with
 | none=>rw [e] at h; cases h
 | some y=>rfl
theorem iY' {x:Tr} (hx:Ok .tm x) (hs:dl' x) {by_ fr:Int} (h0:0 <= by_) (hb:by_ <= 500000):Ok .tm (aq' x by_ fr):=qE' h0 hx (bj' hx hs hb)
def ep' (u:Tr) (b:Int):Tr:=if 0 <= b /\ b <= 500000 then aq' u b 0 else u
def aY' (u:Tr) (v:Int) (d:Int) (n:Nd):Option Tr:=if n.a = v + d then some (ep' u (v + d)) else if v + d < n.a /\ 0 < n.a then some (.mk { n with a:=n.a - 1 } []) else some (.mk n [])
def bf' (x u:Tr) (v:Int):Tr:=(gT (aY' u v) x 0 0).getD x
theorem bB' {x u:Tr} (hx:Ok .tm x) (v:Int):gT (aY' u v) x 0 0 = some (bf' x u v):=by
 have h:(gT (aY' u v) x 0 0).isSome = true:=lp' x .tm 0 0 hx.1 (fun q hq n _ hn=>by
  unfold aY';split
  ·rfl
  ·split <;> rfl)
 unfold bf';cases e:gT (aY' u v) x 0 0 with
 | none=>rw [e] at h; cases h
 | some y=>rfl
theorem iZ' {u:Tr} (hu:Ok .tm u) (hs:dl' u) (b:Int):Ok .tm (ep' u b):=by
 unfold ep';split
 ·rename_i h
  exact iY' hu hs h.1 h.2
 ·exact hu
theorem oA' {x u:Tr} (hx:Ok .tm x) (hu:Ok .tm u) (hs:dl' u) {v:Int}:Ok .tm (bf' x u v) :=
 (tb' (h:=aY' u v) (fun d n y hp h1 e=>by
  have hn:inR n.a 0 1048576 = true /\ n.b = 0:=by simpa [ah',h1] using hp
  have ha:=aF'.1 hn.1;simp only [aY'] at e;split at e
  ·obtain rfl:=JB e
   exact iZ' hu hs _
  ·split at e
   ·obtain rfl:=JB e
    exact il' (by simpa using h1) (by simp only; omega) (by simp only; omega) hn.2
   ·obtain rfl:=JB e
    exact il' h1 ha.1 ha.2 hn.2) x .tm 0 0 _ hx (bB' hx v)).1
end Tm
