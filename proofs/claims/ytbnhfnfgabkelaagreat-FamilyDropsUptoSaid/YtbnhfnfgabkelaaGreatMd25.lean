import Derived.Test.YtbnhfnfgabkelaaGreatMd24
set_option linter.unusedVariables false
set_option linter.unusedSimpArgs false
set_option maxRecDepth 100000
namespace Go.Proofs.YtbnhfnfgabkelaaGreat
open Go.Wx Cd Tm Lv
def gx' (x:EnT):EnT:={ x with ctors:=x.ctors.take (x.ctors.length - 1) }
def cz' (B:BoT) (e:Nat):BoT:={ B with ents:=B.ents.set e (gx' (entD B e)) }
theorem jn' {B:BoT} {e:Int} {cp:Ctx} {r:List CtT}:∀ (l:List CtT) (n:Nat),bU' B e cp (l ++ r) n = bdJ (bU' B e cp l n) fun _ n=>bU' B e cp r n
 | [],n=>rfl
 | c :: l,n=>by
  simp only [List.cons_append,bU'];cases h1:fb' B e (c.args.map tr) cp n with
  | error er=>rfl
  | ok q =>
   simp only [bdJ];cases h2:mD' B e (c.out.map tr) c.args.length q.1 (c.out.map tr) 0 q.2 with
   | error er=>rfl
   | ok q2 =>
    simp only [bdJ];exact jn' l q2.2
theorem tc' {B:BoT} {e:Int} {l r:List CtT} {N n:Nat} (hN:N <= 100000) (h:iD' B e (l ++ r) N = .ok ((),n)):∃ m,iD' B e l N = .ok ((),m) /\ n <= m:=by
 unfold iD' at h ⊢;obtain ⟨⟨ty,n1⟩,h1,h⟩:=an' h;obtain ⟨⟨cp,n2⟩,h2,h⟩:=an' h;obtain ⟨⟨cq,n3⟩,h3,h⟩:=an' h;simp only at h2 h3 h;have l1:n1 <= N:=(ep' (eI' GJ [] (tr (entD B e).sort)) N _ _ hN h1).1;have l2:n2 <= n1:=(kh' B _ _ n1 _ _ (by omega) h2).1;have l3:n3 <= n2:=(kh' B _ _ n2 _ _ (by omega) h3).1;rw [jn'] at h;obtain ⟨⟨_,n4⟩,h4,h⟩:=an' h;have l4:n4 <= n3:=(fX' B e cp l n3 _ _ (by omega) h4).1;have l5:n <= n4:=(fX' B e cp r n4 _ _ (by omega) h).1;rw [h1];simp only [bdJ];rw [h2];simp only [bdJ];rw [h3];simp only [bdJ];exact ⟨n4,h4,l5⟩
section
variable {B:BoT} {e:Nat}
theorem nY' {i:Nat} (h:i ≠ e):entD (cz' B e) i = entD B i:=by
 unfold entD cz';simp only [List.getD_eq_getElem?_getD,Int.toNat_natCast];rw [List.getElem?_set_ne (by omega)]
theorem nZ' (h:e < B.ents.length):entD (cz' B e) e = gx' (entD B e):=by
 have:(cz' B e).ents[e]? = some (gx' (entD B e)):=by
  unfold cz';simp [List.getElem?_set_self h]
 exact bJ' this
theorem iv' {i:Nat} {x:EnT}:∀ (l:List CtT) (j:Nat),bP' B i x l = 0 -> bP' B i x (l.take j) = 0
 | [],j,h=>by simp [bP']
 | c :: r,0,h=>rfl
 | c :: r,j + 1,h=>by
  simp only [List.take_succ_cons,bP'] at h ⊢;split at h
  ·cases h
  rename_i g1;rw [if_neg g1];split at h
  ·cases h
  rename_i g2;rw [if_neg g2];split at h
  ·rename_i g3
   exact absurd h g3
  rename_i g3;rw [if_neg g3];split at h
  ·rename_i g4
   exact absurd h g4
  rename_i g4;rw [if_neg g4];exact iv' r j h
theorem oI' (hR:aJ' B = 0) (he:e + 1 = B.ents.length) (hnat:B.nat = -1) (hk:(entD B e).kind = 1):aJ' (cz' B e) = 0:=by
 obtain ⟨h1,h2,h3,h4⟩:=nX' hR;have hlen:(cz' B e).ents.length = B.ents.length:=by simp [cz']
 have hp:B.prims = []:=by
  unfold oB' at h4;split at h4
  ·cases h4
  ·rename_i g
   cases hp:B.prims with
   | nil=>rfl
   | cons a r=>exact absurd (.inr ⟨hnat,by rw [hp]; simp⟩) g
 unfold aJ';rw [if_neg (by show ¬ fw' B.vars B.orders ≠ 0; omega),if_neg (by omega)];refine as'.2 ⟨iu' _ 0 fun k x hx=>?_,?_⟩
 ·have hkl:=ai' hx
  rw [KW];have hsm:∀ i:Nat,i < k -> entD (cz' B e) i = entD B i:=fun i hi=>nY' (by omega)
  by_cases hke:k = e
  ·subst hke
   have hxe:x = gx' (entD B k):=by rw [<- bJ' hx,nZ' (by omega)]
   obtain ⟨y,hy,_⟩:=af' (l:=B.ents) (k:=k) (by omega);have h0:=cS' B.ents 0 h3 k y hy;rw [KW] at h0;have hyD:=bJ' hy;rw [hyD] at hxe hk;subst hxe;have hk':(gx' y).kind = 1:=hk;unfold bF' at h0 ⊢;rw [if_pos hk] at h0;rw [if_pos hk'];split at h0
   ·cases h0
   rename_i g1;rw [if_neg (show ¬ 0 < (gx' y).type.length + (gx' y).body.length from g1)];split at h0
   ·cases h0
   rename_i g2;have hct:(gx' y).ctors.length <= y.ctors.length:=by simp [gx']
   rw [if_neg (by
    rintro (h | h | h)
    ·exact g2 (.inl h)
    ·exact g2 (.inr (.inl h))
    ·exact g2 (.inr (.inr (by omega))))]
   obtain ⟨a1,h0⟩:=as'.1 h0;obtain ⟨a2,h0⟩:=as'.1 h0;obtain ⟨a3,h0⟩:=as'.1 h0;obtain ⟨a4,a5⟩:=as'.1 h0;refine as'.2 ⟨by rw [kk' (B:=B) (B':=cz' B k) rfl hsm]; exact a1,as'.2 ⟨a2,as'.2 ⟨by rw [dz' (B:=B) (B':=cz' B k) rfl hsm]; exact a3,as'.2 ⟨by rw [dz' (B:=B) (B':=cz' B k) rfl hsm]; exact a4,?_⟩⟩⟩⟩;rw [fY' (B:=B) (B':=cz' B k) (x:=y) (y:=gx' y) rfl hsm rfl rfl];exact iv' y.ctors _ a5
  ·have hx':B.ents[k]? = some x:=by
    have:=hx;unfold cz' at this;simp only at this
    rwa [List.getElem?_set_ne (by omega)] at this
   have:=cS' B.ents 0 h3 k x hx';rw [KW] at this;rw [oH' (B:=B) (B':=cz' B e) rfl hsm x];exact this
 ·have:oB' (cz' B e) = true:=by
   unfold oB' cz';simp [my',hnat,hp]
  rw [this]
  rfl
theorem td' (he:e + 1 = B.ents.length) (hnat:B.nat = -1) {f:Int} {n:Nat} (h:dx' B e f = .ok ((),n)):∃ m,dx' (cz' B e) e f = .ok ((),m) /\ n <= m:=by
 unfold dx' at h;split at h
 ·cases h
 rename_i g;have g:bd' B (e:Int) = 0:=Decidable.not_not.1 g;have hfam:=g;unfold bd' at hfam;split at hfam
 ·rename_i g1; exact absurd hfam g1
 rename_i hR;have hR:aJ' B = 0:=Decidable.not_not.1 hR;rw [if_neg (by omega),if_neg (by omega)] at hfam;split at hfam
 ·cases hfam
 rename_i hk;have hk:(entD B e).kind = 1:=Decidable.not_not.1 hk;have hB:=jk' hR;have hR':=oI' hR he hnat hk;have hat:=nZ' (B:=B) (e:=e) (by omega);have hlen:(cz' B e).ents.length = B.ents.length:=by simp [cz']
 have g':bd' (cz' B e) (e:Int) = 0:=by
  unfold bd';rw [if_neg (by rw [hR']; simp),if_neg (by omega),if_neg (by rw [hlen]; omega),if_neg (by rw [hat]; exact fun h=>h hk)]
 obtain ⟨x,hx,_⟩:=af' (l:=B.ents) (k:=e) (by omega);have hxD:=bJ' hx;have hf:cX' B B.ents.length (e:Int) = true:=vf' hx (by rw [<- hxD]; exact hk) (by omega);have hA:Agr B (cz' B e) (aH' B e e):=sV' hB (by omega) rfl rfl (fun i hi=>nY' (by omega)) (.inr ⟨rfl,hf,by rw [hat]; rfl,by rw [hat]; rfl,by rw [hat]; rfl⟩);obtain ⟨i,x',s,ps,qi,hi0,_,hi,hxD',hF⟩:=hB.fam hf (KJ _);obtain rfl:i = e:=by omega
 have hI:sH' B (cz' B i) (aH' B i i) (i:Int):=rh' hB (KJ _) hi hF (by rw [hat]; rfl) (by rw [hat]; rfl) (by rw [hat]; rfl);obtain ⟨c1,c2,c3⟩:=vg' hB (P:=aH' B i i) hx (by rw [<- hxD]; exact hk) fun m _ hm=>hm;rw [rj'] at h;have hsp:(entD B i).ctors = (entD B i).ctors.take ((entD B i).ctors.length - 1) ++ (entD B i).ctors.drop ((entD B i).ctors.length - 1):=(List.take_append_drop _ _).symm;rw [hsp] at h;have hcl:aX' f <= 100000:=gI' f;obtain ⟨m,hm,hnm⟩:=tc' hcl h;refine ⟨m,?_,hnm⟩;unfold dx';rw [if_neg (by rw [g']; simp),rj',hat];show iD' (cz' B i) i ((entD B i).ctors.take ((entD B i).ctors.length - 1)) (aX' f) = _;rw [ve' hB hA hI c1 c2 _ (fun c hc=>c3 c (by rw [<- hxD]; exact List.mem_of_mem_take hc))];exact hm
end
end Go.Proofs.YtbnhfnfgabkelaaGreat
namespace Go.Wx
theorem Own.svN {α:Type} {R:Rd α} {e lo:Nat} {w:World} {v:Value} {l:List α} (h:Own R e lo w v l) (hl:l.length <= 1099511627776) {lo':Nat} (hlo:lo' <= lo):Go.Proofs.YtbnhfnfgabkelaaGreat.SV R (New lo' w) l v:=by
 obtain ⟨ad,cd,hvd,hcd⟩:=h.cap;obtain ⟨ad',cd',hvd',hsd⟩:=h.den hl;rw [hvd] at hvd';injection hvd' with q1 q2 q3
 subst q1 q3;exact ⟨ad,cd,hvd,hsd.mono fun b o v h=>⟨KQ hlo h.1,h.2⟩,hcd⟩
def Ob (v:Value) (w:World):Mem:=fun b o u=>v.ownBlock = some b /\ Cl w.heap b o u
theorem Own.svO {α:Type} {R:Rd α} {e lo:Nat} {w:World} {v:Value} {l:List α} (h:Own R e lo w v l) (hf:tk' R) (hl:l.length <= 1099511627776):Go.Proofs.YtbnhfnfgabkelaaGreat.SV R (Ob v w) l v:=by
 obtain ⟨⟨css,h1,h2⟩,h3⟩:=h;have hlen:=h2.length;have hk:∀ cs ∈ css,cs.length = R.sz:=by
  intro cs hcs;obtain ⟨i,hi⟩:=JH hcs;have hil:=(List.getElem?_eq_some_iff.1 hi).1;obtain ⟨cs',h4,h5⟩:=h2.get (i:=i) (a:=l[i]'(by omega)) (by simp);rw [hi] at h4;obtain rfl:=JB h4;exact R.len h5
 rcases h1 with ⟨hl1,⟨rfl,h0⟩ | ⟨g,cap,cur,rfl,hb,hg,hn,hm,hc,ht⟩⟩
 ·have:l = []:=List.length_eq_zero_iff.1 h0
  subst this;exact Go.Proofs.YtbnhfnfgabkelaaGreat.SV.nil _ _
 refine ⟨_,_,rfl,⟨by omega,.inr ⟨g,0,rfl,fun i x hx=>?_⟩⟩,hn⟩;obtain ⟨cs,hcs,hden⟩:=h2.get hx;refine ⟨cs,hf _ _ _ _ hden,fun j u hj=>⟨rfl,_,_,_,hg,?_⟩⟩;have hfl:=Go.Wx.flat_get css hk i j cs u hcs hj;rw [<- ht,List.getElem?_take] at hfl;split at hfl
 ·rw [KW]
  simpa using hfl
 ·cases hfl
end Go.Wx
namespace Go.Proofs.YtbnhfnfgabkelaaGreat
open Go.Wx Cd Tm Lv
theorem aT':tk' rOr:=fun _ _ _ _ h=>h
theorem cA':tk' rPr:=fun _ _ _ _ h=>h
theorem skOf {α:Type} {R:Rd α} {C:Mem} {l:List α} {v:Value} (h:SV R C l v):(rSk R).den C [v] l:=by
 obtain ⟨a,c,rfl,h1,h2⟩:=h;exact ⟨a,c,rfl,h2,h1⟩
section
variable {C:Mem} {w:World}
theorem aR' (hS:Sub C w) (l:List Nd) (a:Option Addr) (c:Nat) (hl:Sl rNd C a l) :
  CC 13 #[.slice a l.length c] w (fun e w'=>(∃ v,e = .returned v /\ SV rNd (New w.heap.size w') l v) /\ Kp [] w w'):=by
 refine oF Tryz.func13 ?_;have hlen:=hl.1;refine cO (args:=[_]) 6 [.tmp 2] τok Tryz.func13 ?_;refine fill [] rfl ?_;refine new fun b w1 hb hB hs1 hk1=>?_;have hO:Own rNd 42 w.heap.size w1 (.slice (some ⟨b,0,none⟩) 0 0) []:=Own.empty rNd hB (by omega);refine hO.apF τok rfl rfl (by decide) cl' (hS.tr hk1) l hl (by simp only [JU]; omega) (by simp only [JU,maxLen]; omega) fun v w2 hO2 hk2 _=>?_;rw [List.nil_append] at hO2;exact ⟨⟨v,rfl,hO2.svN hlen (KJ _)⟩,hk1.own hk2 hO⟩
theorem be' (hS:Sub C w) (l:List (List Nd)) (a:Option Addr) (c:Nat) (hl:Sl (rSk rNd) C a l) :
  CC 14 #[.slice a l.length c] w (fun e w'=>(∃ v,e = .returned v /\ SV (rSk rNd) (New w.heap.size w') l v) /\ Kp [] w w'):=by
 refine oF Tryz.func14 ?_;have hlen:=hl.1;refine cO (args:=[_]) 20 [.tmp 2] τok Tryz.func14 ?_;refine lp τok (σ:=Nat × Value) (fun q=>[(0,.slice a l.length c),(3,q.2),(4,iV (q.1:Int))])
  (fun q w'=>q.1 <= l.length /\ Own (rSk rNd) 33 w.heap.size w' q.2 (l.take q.1) /\ Kp [] w w') (fun q=>l.length - q.1) (0,.slice none 0 0) rfl
  ⟨rfl,rfl,rfl,trivial⟩ ⟨KV _,Own.nil _ _ (KJ _),Kp.refl _ _⟩ ?_
 rintro ⟨k,vr⟩ w3 ⟨hk,hO3,k03⟩;simp only at hk hO3;have htl:(l.take k).length = k:=by rw [List.length_take]; omega
 refine ac' (fun g1=>?_) (fun g1=>?_)
 ·have g1:(k:Int) < (l.length:Int):=g1
  obtain ⟨x,hx,_⟩:=af' (l:=l) (k:=k) (by omega);obtain ⟨b,o,rfl,hc⟩:=hl.at (by omega:k < l.length)
  obtain ⟨cs,⟨a',c',rfl,hcap,hs⟩,hcell⟩:=hc k x hx;refine ix k rfl (by omega) ?_;refine ld (Cl.cell ((hS.tr k03) _ _ _ (hcell 0 _ rfl))) ?_;refine ab' (aR' (hS.tr k03) x a' c' hs) ?_;rintro e w4 ⟨⟨v4,rfl,hv4⟩,hk4⟩;refine fill [v4] (by obtain ⟨_,_,rfl,_,_⟩:=hv4; rfl) ?_;refine new fun b5 w5 hb5 h5 hs5 hk5=>?_;have k35:=hk4.tr hk5;refine (hO3.kp k35).ap1 τok rfl rfl (by decide) x [v4] (skOf (hv4.mono (oY' hO3 hk5))) (bZ h5) (by omega) (by simp only [maxLen]; omega) fun v6 w6 hO6 hk6 _=>?_;refine i6 ?_;refine ⟨(k + 1,v6),by simp only; omega,rfl,⟨rfl,rfl,rfl,trivial⟩,by show k + 1 <= l.length; omega,?_,(k03.tr k35).own hk6 (hO3.kp k35)⟩;simp only;rw [ak' hx];exact hO6
 have g1:¬ (k:Int) < (l.length:Int):=g1;obtain rfl:k = l.length:=by omega
 rw [JG (KJ _)] at hO3;exact ⟨⟨vr,rfl,hO3.svN hlen (KJ _)⟩,k03⟩
end
end Go.Proofs.YtbnhfnfgabkelaaGreat
