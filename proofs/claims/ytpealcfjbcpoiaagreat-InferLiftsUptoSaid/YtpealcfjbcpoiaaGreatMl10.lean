import Derived.Test.YtpealcfjbcpoiaaGreatMl09
set_option linter.unusedVariables false
set_option linter.unusedSimpArgs false
set_option maxRecDepth 100000
set_option maxHeartbeats 4000000
namespace Go.Proofs.YtpealcfjbcpoiaaGreat
open Go.Wx Cd Tm Lv
theorem ix':∀ (ys:List Tr) (x:Tr),Ok .tm x -> headT (aj' x ys) = headT x /\ argsT (aj' x ys) = argsT x ++ ys
 | [],x,_=>by simp [aj']
 | y :: r,x,hx=>by
  rw [aj'];have h6:appN.op = 6:=rfl;have e1:headT (.mk appN [x,y]) = headT x:=bu' h6;have e2:argsT (.mk appN [x,y]) = argsT x ++ [y]:=bI' h6;have:∀ (l:List Tr) (z:Tr),headT (aj' z l) = headT z /\ argsT (aj' z l) = argsT z ++ l:=by
   intro l
   induction l with
   | nil=>intro z; simp [aj']
   | cons a l ih =>
    intro z;rw [aj'];obtain ⟨i1,i2⟩:=ih (.mk appN [z,a]);rw [i1,i2,bu' h6,bI' h6];simp
  obtain ⟨i1,i2⟩:=this r (.mk appN [x,y]);rw [i1,i2,e1,e2];simp
theorem Ft.match {Q:Nd -> Prop} {N:Int} {n:Nd} {ks:List Tr} (hp:ah' n = true) (h11:n.op = 11) (hq:Q n) (hl:(ks.length:Int) = 2 + n.b) (hk:∀ k ∈ ks,Ft Q N k) (hlen:(row (.mk n ks)).length <= 4096):Ft Q N (.mk n ks):=by
 have h2:n.op ≠ 2:=by omega
 have h1:n.op ≠ 1:=by omega
 have h12:n.op ≠ 12:=by omega
 have h13:n.op ≠ 13:=by omega
 refine ⟨⟨⟨?_,?_⟩,?_⟩,hlen,?_,?_⟩
 ·simp only [cnt,hp,h2]
  rw [if_pos ⟨trivial,by omega,by omega⟩];simp [ar',h11];omega
 ·have:∀ (l:List Tr) (j:Nat),(∀ k ∈ l,Ok .tm k) -> okL cnt nx l n .tm j:=by
   intro l
   induction l with
   | nil=>intros; trivial
   | cons y l ih =>
    intro j h;exact ⟨by rw [show nx Md.tm n j = .tm by simp [nx,h2,h12]]; exact (h y (by simp)).1,ih _ fun k hk=>h k (by simp [hk])⟩
  exact this ks 0 fun k h=>(hk k h).ok
 ·have:∀ (l:List Tr),(∀ k ∈ l,Ok .tm k) -> eo' l = true:=by
   intro l
   induction l with
   | nil=>intros; rfl
   | cons y l ih =>
    intro h;simp [eo',(h y (by simp)).2,ih fun k hk=>h k (by simp [hk])]
  simp [fZ',h2,this ks fun k h=>(hk k h).ok]
 ·intro q hq
  simp only [varsT,if_neg h1] at hq;have:∀ (l:List Tr) (j:Int),(∀ k ∈ l,Ft Q N k) -> ∀ q ∈ varsK l n 0 j 0,q.1 - q.2 < N:=by
   intro l
   induction l with
   | nil=>intro j _ q hq; simp [varsK] at hq
   | cons y l ih =>
    intro j h q hq;simp only [varsK,JW] at hq;rcases hq with hq | hq
    ·have hy:=h y (by simp)
     have:aJ' n j = 0:=by simp [aJ',h11]
     rw [eR' h13,this] at hq;exact (hy.ok.bld (d:=0 + 0) (nb:=n.b)).2 (hy.bl.mono (by omega)) q hq
    ·exact ih _ (fun k hk=>h k (by simp [hk])) q hq
  exact this ks 0 hk q hq
 ·rw [ib']
  refine ⟨hq,?_⟩;have:∀ (l:List Tr),(∀ k ∈ l,Ft Q N k) -> Als Q l:=by
   intro l
   induction l with
   | nil=>intro _ m hm; simp [rows] at hm
   | cons y l ih =>
    intro h;rw [cU'];exact ⟨(h y (by simp)).al,ih fun k hk=>h k (by simp [hk])⟩
  exact this ks hk
def dB' (x p:Tr):Tr :=
 if (headT x).n.op = 11 then aj' (.mk (headT x).n ((headT x).ks.set 1 p)) (argsT x)
 else aj' (headT x) ((argsT x).set (aD' (headT x)).toNat p)
theorem jl':∀ (l:List Tr) (k:Nat) (y p:Tr),l[k]? = some y -> (rows (l.set k p)).length + (row y).length = (rows l).length + (row p).length
 | x :: r,0,y,p,h=>by
  simp only [List.getElem?_cons_zero,Option.some.injEq] at h;subst h;simp [rows];omega
 | x :: r,k + 1,y,p,h=>by
  have:=jl' r k y p (by simpa using h);simp [rows];omega
section
variable {C:Mem} {w:World} {Q:Nd -> Prop} {N:Int} {x p:Tr}
theorem jm' (hx:Ft Q N x) {y:Tr} (hy:df' x = some y):(row (dB' x p)).length + (row y).length = (row x).length + (row p).length:=by
 have hs:=hx.nargs;unfold df' at hy;unfold dB';split at hy
 ·rename_i g
  rw [if_pos g];obtain ⟨hk,hkl,_,_⟩:=aA' hx.head.ok g;obtain ⟨h1,_⟩:=hx.head.kidD (k:=1) (by rw [hk]; omega);rw [hk] at h1;obtain rfl:=JB hy;have:=jl' _ 1 _ p h1;have e:(row (headT x)).length = 1 + (rows (headT x).ks).length:=by
   cases headT x;simp [row,Tr.ks];omega
  rw [bK'];simp only [row,JK,List.length_replicate,JV];omega
 ·rename_i g
  rw [if_neg g];split at hy
  ·rename_i g2
   split at hy
   ·rename_i g3
    obtain ⟨f,hf,hpl,hp0,hp1⟩:=cW' hx.head.ok g2;obtain ⟨z,hz,_⟩:=af' (l:=argsT x) (k:=(aD' (headT x)).toNat) (by omega);have e:nr' x (aD' (headT x)) = z:=by simp [nr',hz]
    rw [e] at hy;obtain rfl:=JB hy;have:=jl' _ _ _ p hz;rw [bK'];simp only [JK,List.length_replicate,List.length_set];omega
   ·cases hy
  ·cases hy
theorem gV' (hQ:Qk Q) (hx:Ft Q N x) (hp:Ft Q N p) {y:Tr} (hy:df' x = some y) (hl:(row (dB' x p)).length <= 4096):Ft Q N (dB' x p) /\ FoV C (dB' x p) = fun h u=>TmV C (if (headT x).n.op = 11 then .mk (headT x).n ((headT x).ks.set 1 p) else headT x) h /\ TmsV C (if (headT x).n.op = 11 then argsT x else (argsT x).set (aD' (headT x)).toNat p) u:=by
 have hhh:∀ n:Nd,n.op = 11 -> ∀ ks,headT (.mk n ks) = .mk n ks /\ argsT (.mk n ks) = []:=fun n h ks=>⟨bv' (by omega),bJ' (by omega)⟩
 have hh2:headT (headT x) = headT x /\ argsT (headT x) = []:=by
  have:∀ (L:Nat) (x:Tr),(row x).length <= L -> Ok .tm x -> headT (headT x) = headT x /\ argsT (headT x) = []:=by
   intro L
   induction L with
   | zero=>intro x hl; have:=ag' x; omega
   | succ L ih =>
    rintro ⟨n,ks⟩ hl ho
    by_cases h6:n.op = 6
    ·obtain ⟨f,a,rfl,hf,ha⟩:=dx' ho h6
     have hk:kidsT (.mk n [f,a]) = [f,a]:=by simp [kidsT,h6]
     have hs:=fy' (.mk n [f,a]) f (by simp [hk]);rw [bu' h6];exact ih f (by omega) hf
    ·rw [bv' h6]
     exact ⟨bv' h6,bJ' h6⟩
  exact this _ x (KJ _) hx.ok
 unfold df' at hy;unfold dB' at hl ⊢;split at hy
 ·rename_i g
  rw [if_pos g] at hl ⊢;obtain ⟨hk,hkl,_,_⟩:=aA' hx.head.ok g;have hm:Ft Q N (.mk (headT x).n ((headT x).ks.set 1 p)):=by
   refine Ft.match hx.head.ok.pl g hx.head.node' (by simp; omega) (fun k hk'=>?_) ?_
   ·rcases List.mem_or_eq_of_mem_set hk' with h | rfl
    ·obtain ⟨i,hi⟩:=JH h
     have hh:=hx.head;cases hd:headT x with
     | mk n ks =>
      rw [hd] at hh hi hk g;have:=hh.kid (k:=i) (y:=k) (by rw [hk]; exact hi);simp only [Tr.n] at g;have hkb:kb n i = 0:=by simp [kb,aJ',g]
      rwa [hkb,Int.add_zero] at this
    ·exact hp
   ·rw [bK'] at hl
    simp only [JK,List.length_replicate] at hl;omega
  refine ⟨Ft.apply hQ hm hx.args hl,?_⟩
  funext h u
  obtain ⟨e1,e2⟩:=ix' (argsT x) _ hm.ok;obtain ⟨e3,e4⟩:=hhh (headT x).n g ((headT x).ks.set 1 p);rw [e3] at e1;rw [e4] at e2;rw [FoV,e1,e2,if_pos g,if_pos g]
  rfl
 ·rename_i g
  rw [if_neg g] at hl ⊢;refine ⟨Ft.apply hQ hx.head (fun k hk'=>?_) hl,?_⟩
  ·rcases List.mem_or_eq_of_mem_set hk' with h | rfl
   ·exact hx.args k h
   ·exact hp
  ·funext h u
   obtain ⟨e1,e2⟩:=ix' ((argsT x).set (aD' (headT x)).toNat p) _ hx.head.ok;rw [FoV,e1,e2,hh2.1,hh2.2,if_neg g,if_neg g]
   rfl
end
theorem Sl.ints {C:Mem} {a:Option Addr} {l:List Nd} (h:Sl rNd C a l):Sl rNd (fun b o v=>C b o v /\ ∃ m,v = iV m) a l:=by
 refine ⟨h.1,h.2.imp_right fun ⟨b,o,ha,hc⟩=>⟨b,o,ha,fun i x hi=>?_⟩⟩;obtain ⟨cs,h1,h2⟩:=hc i x hi;have h1':=h1;obtain ⟨rfl,_⟩:=h1';refine ⟨_,h1,fun j v hj=>⟨h2 j v hj,?_⟩⟩
 match j,hj with
 | 0,hj=>exact ⟨_,(JB hj).symm⟩
 | 1,hj=>exact ⟨_,(JB hj).symm⟩
 | 2,hj=>exact ⟨_,(JB hj).symm⟩
 | j + 3,hj=>cases hj
theorem TmsV.put {n:Nat} {w:World} {ys:List Tr} {v:Value} (h:TmsV (New n w) ys v) {i:Nat} (hi:i < ys.length) :
  ∃ b o c,v = .slice (some ⟨b,o,none⟩) ys.length c /\ n <= b /\ b < w.heap.size /\ ∀ {K:World -> Prop} (u:Value),u.oneCell' = true ->
   (∀ w',w'.heap.size = w.heap.size -> Kp [b] w w' -> (∀ {D:Mem} {p:Tr},TmV D p u -> (∀ b o v,New n w' b o v -> D b o v) -> TmsV D (ys.set i p) v) -> (∀ {x z},TmV (New n w) x z -> TmV (New n w') x z) -> K w') -> EvSt w ⟨b,o + i * 1,none⟩ u K:=by
 obtain ⟨y,hy,_⟩:=af' (l:=ys) (k:=i) hi;obtain ⟨b,o,c,rfl,z,⟨hnb,cells,T,hcb,hcz⟩,hzT⟩:=h.get hy;have hlt:b < w.heap.size:=(Array.getElem?_eq_some_iff.1 hcb).1;refine ⟨b,o,c,rfl,hnb,hlt,fun {K} u hu hK=>?_⟩;have hB:Bk w.heap b cells.toList T:=by unfold Bk; simpa using hcb
 have hol:o + i * 1 < cells.toList.length:=by
  have:=(Array.getElem?_eq_some_iff.1 hcz).1
  simpa using this
 refine st hB hol hu fun w' hB' hs hk=>?_;obtain ⟨az,cz,hzv,_,_⟩:=hzT;have keep:∀ b' o' t,New n w b' o' t -> (b' = b -> o' ≠ o + i * 1) -> New n w' b' o' t:=fun b' o' t ⟨h1,c1,T1,h2,h3⟩ hne=>by
  refine ⟨h1,?_⟩
  by_cases hb:b' = b
  ·subst hb
   rw [hcb] at h2;injection h2 with h2
   injection h2 with h2 h4 h5
   subst h2 h4;refine ⟨_,_,hB',?_⟩;have:=hne rfl;simp only [List.getElem?_toArray];rw [List.getElem?_set_ne (by omega)]
   simpa using h3
  ·have hl:b' < w.heap.size:=(Array.getElem?_eq_some_iff.1 h2).1
   exact ⟨c1,T1,by rw [hk.block b' hl (by simpa using hb)]; exact h2,h3⟩
 have keepT:∀ {x z},TmV (New n w) x z -> TmV (New n w') x z:=fun {x z} ⟨a',cp,h6,h7,h8⟩=>by
  refine ⟨a',cp,h6,(Sl.ints h7).mono fun b' o' t ht=>keep _ _ _ ht.1 fun hb ho=>?_,h8⟩;obtain ⟨⟨_,c1,T1,h9,h10⟩,k,rfl⟩:=ht;subst hb ho hzv;rw [hcb] at h9;injection h9 with h9
  injection h9 with h9 _ _
  subst h9;rw [hcz] at h10;cases h10
 refine hK w' hs hk (fun {D p} hpu hD=>?_) keepT;obtain ⟨a2,c2,e2,hsl,hc2⟩:=h;injection e2 with e3 e4 e5
 subst e3 e5;refine ⟨_,c,by simp,⟨by have:=hsl.1; simpa using this,.inr ⟨b,o,rfl,fun j x hj=>?_⟩⟩,by simpa using hc2⟩;rw [JX] at hj;obtain ⟨q,hq,rfl⟩:=Option.map_eq_some_iff.1 hj;rw [List.getElem?_set] at hq
 by_cases hij:i = j
 ·subst hij
  rw [if_pos rfl] at hq;split at hq
  ·obtain rfl:=JB hq
   obtain ⟨ap,cp,rfl,hp1,hp2⟩:=hpu;refine ⟨_,⟨ap,cp,rfl,hp2,hp1⟩,fun m t hm=>?_⟩;have:m = 0:=by
    have:=ai' hm;simp at this;exact this
   subst this;simp only [List.getElem?_cons_zero,Option.some.injEq] at hm;subst hm;refine hD _ _ _ ⟨hnb,_,_,hB',?_⟩;show (cells.toList.set (o + i * 1) _).toArray[o + i * 1 + 0]? = _;simp only [List.getElem?_toArray,Nat.add_zero];rw [List.getElem?_set_self hol]
  ·rename_i hno
   exact absurd hi hno
 ·rw [if_neg hij] at hq
  obtain ⟨b1,o1,hb1,a',cp,h6,h7,h8⟩:=hsl.sk (i:=j) (x:=row q) (by rw [JX,hq]; rfl);injection hb1 with hb1
  injection hb1 with hb1 ho1
  subst hb1 ho1;refine ⟨_,⟨a',cp,rfl,h7,(Sl.ints h8).mono fun b' o' t ht=>hD _ _ _ (keep _ _ _ ht.1 fun hb ho=>?_)⟩,fun m t hm=>?_⟩
  ·obtain ⟨⟨_,c1,T1,h9,h10⟩,k,rfl⟩:=ht
   subst hb ho hzv;rw [hcb] at h9;injection h9 with h9
   injection h9 with h9 _ _
   subst h9;rw [hcz] at h10;cases h10
  ·have:m = 0:=by
    have:=ai' hm;simp at this;exact this
   subst this;simp only [List.getElem?_cons_zero,Option.some.injEq] at hm;subst hm;exact hD _ _ _ (keep _ _ _ h6 fun _=>by show o + j * 1 + 0 ≠ o + i * 1; omega)
section
variable {C:Mem} {w:World} {Q:Nd -> Prop} {N:Int} {x p y:Tr}
theorem tw' (hQ:Qk Q) (hS:Sub C w) (hold:∀ b o v,C b o v -> b < w.heap.size) (hx:Ft Q N x) (hp:Ft Q N p) (hy:df' x = some y) (hl:(row (dB' x p)).length <= 4096) {h u vp:Value} (hf:FoV C x h u) (hvp:TmV C p vp) :
  CC 115 #[.agg #[h,u],vp] w (fun e w'=>(∃ h u,e = .returned (.agg #[h,u]) /\ FoV (Cn C w w') (dB' x p) h u) /\ Kp [] w w'):=by
 refine oF Tryz.func115 ?_;have hFV:∀ {D:Mem},FoV D (dB' x p) = _:=fun {D}=>(gV' (C:=D) hQ hx hp hy hl).2;have hwF:=(gV' (C:=C) hQ hx hp hy hl).1;obtain ⟨hh,hu⟩:=hf;have hhh:=hh;have huu:=hu;obtain ⟨n,hnE⟩:∃ n,(headT x).n = n:=⟨_,rfl⟩
 obtain ⟨bh,oh,ch,rfl,hi1,hi2,hi3,hhc⟩:=hh.hd;rw [hnE] at hhc hi1 hi2 hi3;obtain ⟨au,cu,rfl,hu1,hu2⟩:=hu;have hvp':=hvp;obtain ⟨avp,cvp,rfl,_,_⟩:=hvp';have hfew:=hx.few;refine cO (args:=[_,_]) 43 [.cell 4 161] τok Tryz.func115 ?_;refine new fun b2 w1 hb2 h2 hs1 hk1=>?_;have h2:Bk w1.heap b2 [.slice (some ⟨bh,oh,none⟩) (row (headT x)).length ch,.slice au (argsT x).length cu] 161:=h2;refine new fun b4 w2 hb4 h4 hs2 hk2=>?_;have k02:=hk1.tr hk2;have h2:=h2.kp hk2 (by simp);have hS2:=hS.tr k02;have hold2:∀ b o v,C b o v -> b < w2.heap.size:=fun b o v h=>KZ (hold b o v h) k02.size;refine lb h2 ?_;refine ix 0 rfl (ag' _) ?_;refine ldC hS2 (by simpa using hhc 0 _ rfl) ?_;refine ac' (fun g=>?_) (fun g=>?_)
 ·have g:n.op = 11:=g
  rw [<- hnE] at g;obtain ⟨hk,hkl,_,_⟩:=aA' hx.head.ok g;refine lb h2 ?_;refine ab' (dU' hS2 hold2 hx.head hhh) ?_;rintro e w3 ⟨uk,rfl,huk,hk3⟩;have k03:=k02.tr hk3;have huk':TmsV (New w2.heap.size w3) (kidsT (headT x)) uk:=huk;obtain ⟨b5,o5,c5,rfl,hb5,hb5l,hput⟩:=huk'.put (i:=1) (by rw [hk]; omega);refine ix 1 rfl (by rw [hk]; omega) ?_;refine hput _ rfl fun w5 hs5 hk5 hafter _=>?_;have k25:Kp [] w2 w5:=hk3.trans hk5 fun x hx hl=>by
   obtain rfl:x = b5:=by simpa using hx
   omega
  have k05:=k02.tr k25;obtain ⟨ks',hks'⟩:∃ ks',(kidsT (headT x)).set 1 p = ks':=⟨_,rfl⟩
  have hkl':ks'.length = (kidsT (headT x)).length:=by rw [<- hks']; simp
  have hkT:((kidsT (headT x)).length:Int) = 2 + (headT x).n.b:=by rw [hk]; exact hkl
  have hafter:=hafter (D:=Cn C w w5) (p:=p) (hvp.mono fun b o v h=>.inl h) (fun b o v h=>.inr ⟨KQ k02.size h.1,h.2⟩);rw [hks',<- hkl'] at hafter;rw [<- hkl'];have hkk:(headT x).ks.set 1 p = ks':=by rw [<- hks',hk]
  rw [hkk] at hFV;rw [hnE] at hFV;have hwl:(row (dB' x p)).length = (argsT x).length + ((1 + (rows ks').length) + (rows (argsT x)).length):=by
   unfold dB';rw [if_pos g,bK',hkk];simp only [JK,List.length_replicate,row,JV];omega
  have h2:=h2.kp k25 (by simp);have h4:=h4.kp k25 (by simp);have hS5:=hS.tr k05;obtain ⟨a5,c5',hae,hsl5,_⟩:=hafter;injection hae with q1 q2 q3
  subst q1 q3;have hrl:(row (.mk n ks')).length = 1 + (rows ks').length:=by simp only [row,JV]; omega
  have hsum:=go' ks';have hpos:0 < (rows ks').length:=by
   have:=ji' ks';omega
  refine as' τok (fun z=>Kp [] w5 z) ?_;refine rV τok [0,1,2,3,5,8,9] 5 (mB 12 [4,6,7,10,11]) (kQd w5) ?_;refine lk h2 ?_;refine ix 0 rfl (ag' _) ?_;refine fN' [iV n.op,iV n.a,iV n.b] rfl (fun z hz j v hj=>(hS5 _ _ _ (hhc j v hj)).kp hz (by simp)) ?_;refine lk h2 ?_;have mkO:∀ {wa wb:World} {b:Nat},w5.heap.size <= b -> Bk wb.heap b [iV n.op,iV n.a,iV n.b] 45 -> w5.heap.size <= wb.heap.size -> Own rNd 45 w5.heap.size wb (.slice (some ⟨b,0,none⟩) 1 1) [n]:=fun hlo hB hle =>
   ⟨⟨[[iV n.op,iV n.a,iV n.b]],jT' (n:=1) hB hlo rfl (by simp [maxLen]),⟨rfl,hi1,hi2,hi3⟩,trivial⟩,hle⟩
  refine gd' τok 4 6 4 (mB 12 [6,7,10,11]) (mB 12 [4,7,10,11]) rfl rfl rfl rfl rfl (by kernel_rfl) ?_ ?_
  ·refine fill [iV n.op,iV n.a,iV n.b] rfl ?_
   refine new fun bx w6 hbx hX hs6 hkA=>?_;have hkA:Kp [] w5 w6:=hkA.rd;have hbx:bx = w5.heap.size:=hbx;refine ⟨.inl hkA,?_⟩;refine nV τok 6 3 (mB 12 [7,10,11]) ?_;have hcc:=fz' (D:=Cn C w w5) (w:=w6) (Sub.tr (Cn.sub hS k05) hkA) (ks'.map row) (some ⟨b5,o5,none⟩) c5 hsl5.of_sk (by simp; omega) (by rw [hsum]; omega) (by rw [hsum]; omega);rw [eW',List.length_map] at hcc;refine ab' hcc ?_;rintro e w7 ⟨vc,rfl,hOc,hkB⟩;have hOb:=mkO (wa:=w5) (wb:=w7) (b:=bx) (by omega) (hX.kp hkB (by simp)) (hkA.tr hkB).size;have k59:Kp [] w5 w7:=hkA.tr hkB;refine ⟨.inl k59,?_⟩;refine nV τok 7 2 (mR 12 10) ?_;obtain ⟨a8,c8,rfl,hs8⟩:=hOc.den (by omega);refine hOb.apF τok rfl rfl (by decide) cy' (New.sub _ _) (rows ks') hs8 (by simp; omega) (by simp only [maxLen,JV,JU]; omega) fun v9 w9 hO9 hk9 _=>?_;have k69:Kp [] w5 w9:=k59.own hk9 hOb;refine ⟨.inl k69,?_⟩;have hO9:Own rNd 45 w5.heap.size w9 v9 (row (.mk n ks')):=hO9;have hT9:=Own.isTm hO9 (by omega);obtain ⟨a9,c9,rfl,hT9s,hT9c⟩:=hT9;refine rV τok [10] 1 (mR 12 11) k69 ?_;refine nV τok 11 0 (mR 12 12) ?_;refine stN (vs:=[.slice a9 (row (.mk n ks')).length c9,.slice au (argsT x).length cu]) (h4.kp k69 (by simp)) rfl (by simp [Value.oneCell']) fun w10 h4' hs10 hk10=>?_;refine ⟨.inr (by kernel_rfl),?_⟩;refine dV ?_;refine nl' τok rfl [_,_] rfl (fun j v hj=>h4'.cl hj) ?_;have k010:Kp [] w w10:=(k05.tr k69).trans hk10 fun x hx hl=>by
    obtain rfl:x = b4:=by simpa using hx
    omega
   refine ⟨⟨_,_,rfl,?_⟩,k010⟩;rw [hFV];have g':n.op = 11:=by rw [<- hnE]; exact g
   simp only [if_pos g'];have h5le:w.heap.size <= w5.heap.size:=k05.size;refine ⟨⟨a9,c9,rfl,hT9s.mono fun b o v h=>.inr ⟨KQ h5le h.1,h.2.kp hk10 (by
    have:=h.1;have:=k25.size;simp;omega)⟩,hT9c⟩,huu.mono fun b o v h=>.inl h⟩
  ·have hcc:=fz' (D:=Cn C w w5) (w:=(dr w5)) (Sub.dr (Cn.sub hS k05) _) (ks'.map row) (some ⟨b5,o5,none⟩) c5 hsl5.of_sk (by simp; omega) (by rw [hsum]; omega) (by rw [hsum]; omega)
   rw [eW',List.length_map] at hcc;refine ab' hcc ?_;rintro e w6 ⟨vc,rfl,hOc,hkA⟩;have hkA:Kp [] w5 w6:=hkA.rd;refine ⟨.inl hkA,?_⟩;refine nV τok 4 3 (mB 12 [7,10,11]) ?_;refine fill [iV n.op,iV n.a,iV n.b] rfl ?_;refine new fun bx w7 hbx hX hs7 hkB=>?_;have hle6:=hkA.size;have hOb:=mkO (wa:=w5) (wb:=w7) (b:=bx) (by omega) hX (hkA.tr hkB).size;have hOc:=hOc.kp hkB;have k59:Kp [] w5 w7:=hkA.tr hkB;refine ⟨.inl k59,?_⟩;refine nV τok 7 2 (mR 12 10) ?_;obtain ⟨a8,c8,rfl,hs8⟩:=hOc.den (by omega);refine hOb.apF τok rfl rfl (by decide) cy' (New.sub _ _) (rows ks') hs8 (by simp; omega) (by simp only [maxLen,JV,JU]; omega) fun v9 w9 hO9 hk9 _=>?_;have k69:Kp [] w5 w9:=k59.own hk9 hOb;refine ⟨.inl k69,?_⟩;have hO9:Own rNd 45 w5.heap.size w9 v9 (row (.mk n ks')):=hO9;have hT9:=Own.isTm hO9 (by omega);obtain ⟨a9,c9,rfl,hT9s,hT9c⟩:=hT9;refine rV τok [10] 1 (mR 12 11) k69 ?_;refine nV τok 11 0 (mR 12 12) ?_;refine stN (vs:=[.slice a9 (row (.mk n ks')).length c9,.slice au (argsT x).length cu]) (h4.kp k69 (by simp)) rfl (by simp [Value.oneCell']) fun w10 h4' hs10 hk10=>?_;refine ⟨.inr (by kernel_rfl),?_⟩;refine dV ?_;refine nl' τok rfl [_,_] rfl (fun j v hj=>h4'.cl hj) ?_;have k010:Kp [] w w10:=(k05.tr k69).trans hk10 fun x hx hl=>by
    obtain rfl:x = b4:=by simpa using hx
    omega
   refine ⟨⟨_,_,rfl,?_⟩,k010⟩;rw [hFV];have g':n.op = 11:=by rw [<- hnE]; exact g
   simp only [if_pos g'];have h5le:w.heap.size <= w5.heap.size:=k05.size;refine ⟨⟨a9,c9,rfl,hT9s.mono fun b o v h=>.inr ⟨KQ h5le h.1,h.2.kp hk10 (by
    have:=h.1;have:=k25.size;simp;omega)⟩,hT9c⟩,huu.mono fun b o v h=>.inl h⟩
 ·have g:¬ n.op = 11:=g
  rw [<- hnE] at g;obtain ⟨g2,g3⟩:(headT x).n.op = 12 /\ aD' (headT x) < (argsT x).length:=by
   unfold df' at hy;rw [if_neg g] at hy;split at hy
   ·split at hy
    ·exact ⟨by assumption,by assumption⟩
    ·cases hy
   ·cases hy
  obtain ⟨f,hf,hpl,hp0,hp1⟩:=cW' hx.head.ok g2;obtain ⟨vs,hvs,hpc⟩:=mp' hu1;have hvl:=hpc.1;refine lb h2 ?_;have hcl:=eg' hS2 vs au cu hvs (by omega);rw [hvl] at hcl;refine ab' hcl ?_;rintro e w3 ⟨⟨va,rfl,hO3⟩,hk3⟩;have hO3':=hO3;obtain ⟨a3,c3,rfl⟩:=hO3'.len;have h2:=h2.kp hk3 (by simp);have k03:=k02.tr hk3;refine lb h2 ?_;refine ab' (fC' (hS.tr k03) hx.head g2 hhh) ?_;rintro e w4 ⟨rfl,hk4⟩;have h2:=h2.kp hk4 (by simp);have k24:=hk3.tr hk4;obtain ⟨k,hk⟩:∃ k:Nat,aD' (headT x) = (k:Int):=⟨(aD' (headT x)).toNat,by omega⟩
  obtain ⟨z,hz,_⟩:=af' (l:=vs) (k:=k) (by omega);obtain ⟨g5,cap5,hv5,hlo5,hst⟩:=(hO3.kp hk4).st (i:=k) (j:=0) (x:=z) (y:=.slice avp (row p).length cvp) hz (by decide) (u:=.slice avp (row p).length cvp) rfl (fun cs h=>by
   obtain ⟨rfl,h1⟩:=h;exact ⟨rfl,rfl⟩)
  injection hv5 with q1 q2 q3
  subst q1 q3;refine ix k hk (by omega) ?_;refine hst fun w5 hO5 hs5 hk5=>?_;have k25:Kp [] w2 w5:=k24.trans hk5 fun x hx hl=>by
   obtain rfl:x = g5:=by simpa using hx
   omega
  have h2:=h2.kp hk5 (by simp; omega);have h4:=h4.kp k25 (by simp);refine lb h2 ?_;refine stN (vs:=[.slice (some ⟨bh,oh,none⟩) (row (headT x)).length ch,.slice (some ⟨g5,0,none⟩) vs.length c3]) h4 rfl (by simp [Value.oneCell']) fun w6 h4' hs6 hk6=>?_;refine nl' τok rfl [_,_] rfl (fun j v hj=>h4'.cl hj) ?_;have k05:=k02.tr k25;refine ⟨⟨_,_,rfl,?_⟩,k05.trans hk6 fun x hx hl=>by
   obtain rfl:x = b4:=by simpa using hx
   omega⟩
  rw [hFV];simp only [if_neg g];obtain ⟨a6,c6,hv6,hs6'⟩:=hO5.den (by simp; omega);obtain ⟨a7,c7,hv7,hc7⟩:=hO5.cap;injection hv6 with q1 q2 q3
  subst q1 q3;injection hv7 with q1 q2 q3
  subst q3;have h2le:w.heap.size <= w2.heap.size:=k02.size;refine ⟨hhh.mono fun b o v h=>.inl h,some ⟨g5,0,none⟩,c3,?_,?_,by simpa [<- hvl] using hc7⟩
  ·rw [List.length_set,hvl]
  ·refine Pcs.sl (os:=vs.set k (.slice avp (row p).length cvp)) ⟨by simp [hvl],fun i v y hv hy=>?_⟩ (hs6'.mono fun b o v h=>.inr ⟨KQ h2le h.1,h.2.kp hk6 (by have:=h.1; simp; omega)⟩)
   rw [hk,Int.toNat_natCast,List.getElem?_set] at hy;rw [List.getElem?_set] at hv
   by_cases hik:k = i
   ·subst hik
    rw [if_pos rfl,if_pos (by omega)] at hv hy;obtain rfl:=JB hv;obtain rfl:=JB hy;obtain ⟨a9,c9,e9,h9,h10⟩:=hvp;injection e9 with q1 q2 q3
    subst q1 q3;exact ⟨_,_,rfl,h9.mono fun b o v h=>.inl h,h10⟩
   ·rw [if_neg hik] at hv hy
    obtain ⟨a9,c9,e9,h9,h10⟩:=hpc.2 i v y hv hy;exact ⟨a9,c9,e9,h9.mono fun b o v h=>.inl h,h10⟩
end
theorem bn' {x:Tr} (hx:Ok .tm x) (h2:x.n.op ≠ 2) (h12:x.n.op ≠ 12):kidsT x = x.ks /\ (x.ks.length:Int) = ar' x.n:=by
 obtain ⟨n,ks⟩:=x;simp only [Tr.n,Tr.ks] at h2 h12 ⊢;obtain ⟨hc,hok,hi⟩:=hx.kids;obtain ⟨hp,_,_,hk⟩:=bG' hc;have:=dj' hp;rw [if_neg h2] at hk;exact ⟨by simp [kidsT,h2,h12],by omega⟩
theorem iy' {x:Tr} {k:Nat} {y:Tr} (h:x.ks[k]? = some y):row x = (x.n :: rows (x.ks.take k)) ++ (row y ++ rows (x.ks.drop (k + 1))):=by
 obtain ⟨n,ks⟩:=x;simp only [Tr.n,Tr.ks] at h ⊢;have:=iv' h;simp [row,this]
def aH' (x:Tr) (ys:List Tr):Except Int Tr:=if 4096 < (row (aj' x ys)).length then .error 9 else .ok (aj' x ys)
def kp' (B:BoT) (cx:Ctx) (x:Tr):Except Int Tr :=
 let h:=headT x
 let l:=argsT x
 if h.n.op = 5 then (ay' (kidD h 1) (l.getD 0 (varX 0)) 0).bind fun s=>aH' s (l.drop 1)
 else if h.n.op = 7 then (ay' (kidD h 2) (kidD h 1) 0).bind fun s=>aH' s l
 else if h.n.op = 1 then aH' (aq' ((ge' cx h.n.a).2.getD (varX 0)) (h.n.a + 1) 0) l
 else if h.n.op = 8 then aH' (tr (cr' B h.n.a).body) l
 else if h.n.op = 11 then aH' (kidD h (2 + (headT (kidD h 1)).n.b.toNat)) ((argsT (kidD h 1)).drop (nPar B h.n.a) ++ l)
 else (dg' h).bind fun u=>aH' u l
section
variable {B:BoT} {cx:Ctx} {x:Tr}
theorem aL' {Q:Nd -> Prop} {N:Int} (hQ:Qk Q) {s:Tr} {l:List Tr} (hs:Ft Q N s) (hl:∀ y ∈ l,Ft Q N y) {z:Tr} (h:aH' s l = .ok z):Ft Q N z:=by
 unfold aH' at h;split at h
 ·cases h
 ·injection h with h
  subst h;exact Ft.apply hQ hs hl (by omega)
theorem lz' (hB:GoodB B) {n:Nd} {s:Tr} {N:Int} (hs:Ft (QB B) N s) (h:gf' B n s = true):(headT s).n.op = 10 /\ (headT s).n.a = n.a /\ 0 <= (headT s).n.b /\ (headT s).n.b < n.b /\ nPar B n.a <= (argsT s).length:=by
 simp only [gf',Bool.and_eq_true,decide_eq_true_eq] at h;obtain ⟨h1,h2,h3,h4⟩:=h;have:=ba' hs.head.ok.pl;exact ⟨h1,h2,by omega,h3,by omega⟩
theorem Ft.kidN {Q:Nd -> Prop} {N:Int} (h:Ft Q N x) (k:Nat) (hk:k < (kidsT x).length) {b:Int} (hb:kb x.n k = b):Ft Q (N + b) (Go.Proofs.YtpealcfjbcpoiaaGreat.kidD x k):=by
 have:=(h.kidD hk).2
 rwa [hb] at this
theorem pb' (hB:GoodB B) (hcx:CxOk B cx) (hN:cx.length <= 90000) (hx:Ft (QB B) (cx.length:Int) x) (hr:bT' B cx x = true) {z:Tr} (h:kp' B cx x = .ok z):Ft (QB B) (cx.length:Int) z:=by
 have hQ:=qk B;have hh:=hx.head;unfold bT' at hr;unfold kp' at h;simp only at h hr;split at h
 ·rename_i g
  rw [if_pos g] at hr;have hr:=of_decide_eq_true hr;obtain ⟨hk,hkl⟩:=bn' hh.ok (by omega) (by omega);have hkc:ar' (headT x).n = 2:=by simp [ar',g]
  have hb:=hh.kidN 1 (by rw [hk]; omega) (b:=1) (by simp [kb,aJ',g]);obtain ⟨a,ha,_⟩:=af' (l:=argsT x) (k:=0) hr;have ea:(argsT x).getD 0 (varX 0) = a:=by simp [ha]
  rw [ea] at h;cases e:ay' (kidD (headT x) 1) a 0 with
  | error er=>rw [e] at h; cases h
  | ok s =>
   rw [e] at h;have hs:=az' hQ (N:=(cx.length:Int)) (v:=0) (hb.mono (by omega)) (hx.args a (JQ ha)) (by omega) (by omega) (by omega) (by omega) e;exact aL' hQ (hs.mono (by omega)) (fun y hy=>hx.args y (List.mem_of_mem_drop hy)) h
 rename_i g;rw [if_neg g] at hr;split at h
 ·rename_i g2
  obtain ⟨hk,hkl⟩:=bn' hh.ok (by omega) (by omega);have hkc:ar' (headT x).n = 3:=by simp [ar',g2]
  have hb:=hh.kidN 2 (by rw [hk]; omega) (b:=1) (by simp [kb,aJ',g2]);have hv:=hh.kidN 1 (by rw [hk]; omega) (b:=0) (by simp [kb,aJ',g2]);cases e:ay' (kidD (headT x) 2) (kidD (headT x) 1) 0 with
  | error er=>rw [e] at h; cases h
  | ok s =>
   rw [e] at h;have hs:=az' hQ (N:=(cx.length:Int)) (v:=0) (hb.mono (by omega)) (hv.mono (by omega)) (by omega) (by omega) (by omega) (by omega) e;exact aL' hQ (hs.mono (by omega)) hx.args h
 rename_i g2;split at h
 ·rename_i g3
  rw [if_neg (by omega),if_pos g3] at hr;cases hd:headT x with
  | mk n ks =>
   rw [hd] at h hr hh g3;simp only [Tr.n] at h hr g3;obtain ⟨ha0,ha1,_⟩:=hh.var_lt g3;have hget:=cf' ha0 ha1;obtain ⟨v,hv⟩:=Option.isSome_iff_exists.1 hr;rw [hv] at h;have hvF:=(hcx _ _ hget).2 v hv;have:=hvF.lift hQ (by omega) (b:=n.a + 1) (by omega) (by omega);exact aL' hQ (this.mono (by omega)) hx.args h
 rename_i g3;split at h
 ·rename_i g4
  obtain ⟨i,e,ty,bo,hna,hi,hxD,hGD⟩:=hB.dfn hh.node' g4;rw [hxD,hGD.body,cJ' hGD.fb.ok] at h;exact aL' hQ ((hGD.fb.wk fun m hm=>dV' (Nat.le_of_lt (ai' hi)) hm).mono (by omega)) hx.args h
 rename_i g4;rw [if_neg (by omega),if_neg g3] at hr;split at h
 ·rename_i g5
  rw [if_pos g5] at hr;obtain ⟨hk,hkl,hb0,hb1⟩:=aA' hh.ok g5;have hs:=hh.kidN 1 (by rw [hk]; omega) (b:=0) (by simp [kb,aJ',g5]);obtain ⟨f1,f2,f3,f4,f5⟩:=lz' hB hs hr;have hbr:=hh.kidN (2 + (headT (kidD (headT x) 1)).n.b.toNat) (by rw [hk]; omega) (b:=0) (by simp [kb,aJ',g5]);refine aL' hQ (hbr.mono (by omega)) (fun y hy=>?_) h;rcases List.mem_append.1 hy with hy | hy
  ·exact (hs.args y (List.mem_of_mem_drop hy)).mono (by omega)
  ·exact hx.args y hy
 ·rename_i g5
  rw [if_neg g5] at hr;split at hr
  ·rename_i g6
   cases e:dg' (headT x) with
   | error er=>rw [e] at h; cases h
   | ok u =>
    rw [e] at h;exact aL' hQ (gU' hQ hh g6 (by omega) (by omega) e) hx.args h
  ·cases hr
end
theorem pd' {α:Type}:∀ {l:List α},l.length = 2 -> ∃ a b,l = [a,b]
 | [a,b],_=>⟨a,b,rfl⟩
theorem kq' {α:Type}:∀ {l:List α},l.length = 3 -> ∃ a b c,l = [a,b,c]
 | [a,b,c],_=>⟨a,b,c,rfl⟩
theorem TmsV.drop {C:Mem} {ys:List Tr} {v:Value} (h:TmsV C ys v) {k:Nat} (hk:k <= ys.length):∃ a c,v = .slice a ys.length c /\ ∃ v',sliced a k ys.length c 1 = v' /\ TmsV C (ys.drop k) v':=by
 obtain ⟨a,c,rfl,h2,h3⟩:=h;obtain ⟨a',h4,h5⟩:=h2.from (cap:=c) (by simpa using h3) k (by simpa using hk)
 refine ⟨a,c,rfl,_,rfl,?_⟩;rw [List.length_map] at h4;rw [show sliced a k ys.length c 1 = sliced a k ys.length c (rSk rNd).sz from rfl,h4];rw [<- List.map_drop] at h5 ⊢;exact ⟨a',c - k,by simp,h5,by rw [List.length_drop]; omega⟩
theorem Pcs.app {C:Mem} {l m:List Value} {ys zs:List Tr} (h:Pcs C l ys) (h':Pcs C m zs):Pcs C (l ++ m) (ys ++ zs):=by
 obtain ⟨h1,h2⟩:=h;obtain ⟨h3,h4⟩:=h';refine ⟨by simp [h1,h3],fun i v y hv hy=>?_⟩
 by_cases hi:i < l.length
 ·rw [List.getElem?_append_left hi] at hv
  rw [List.getElem?_append_left (by omega)] at hy;exact h2 i v y hv hy
 ·rw [List.getElem?_append_right (by omega)] at hv hy
  rw [<- h1] at hy;exact h4 _ v y hv hy
theorem Own.tms {D:Mem} {lo:Nat} {w:World} {v:Value} {os:List Value} {ys:List Tr} (h:Own ez' 29 lo w v os) (hp:Pcs D os ys) (hD:∀ b o v,New lo w b o v -> D b o v) (hl:os.length <= 1000000):TmsV D ys v:=by
 obtain ⟨a,c,hv,hc⟩:=h.cap;obtain ⟨a',c',hv',hs⟩:=h.den (by omega);rw [hv] at hv';injection hv' with q1 q2 q3
 subst q1 q3;exact ⟨a,c,by rw [hv,hp.1],hp.sl (hs.mono hD),by rw [<- hp.1]; exact hc⟩
theorem TmsV.vals {C:Mem} {ys:List Tr} {v:Value} (h:TmsV C ys v):∃ a c vs,v = .slice a ys.length c /\ ys.length <= c /\ Sl ez' C a vs /\ Pcs C vs ys:=by
 obtain ⟨a,c,h1,h2,h3⟩:=h;obtain ⟨vs,h4,h5⟩:=mp' h2;exact ⟨a,c,vs,h1,h3,h4,h5⟩
section
variable {C:Mem} {w:World} {B:BoT} {cx:Ctx} {bm fu:Nat} {x:Tr}
theorem vd' (hB:GoodB B) (hS:Sub C w) (hold:∀ b o v,C b o v -> b < w.heap.size) (hM:MacC C w bm B cx fu) (hcx:CxOk B cx) (hcl:cx.length <= 90000) (hx:Ft (QB B) (cx.length:Int) x) (hr:bT' B cx x = true) {h u:Value} (hf:FoV C x h u) :
  CC 118 #[pt bm,.agg #[h,u]] w (fun e w'=>(match kp' B cx x with
   | .ok z=>∃ h u,e = .returned (.agg #[h,u]) /\ FoV (New w.heap.size w') z h u
   | .error er=>e = .panicked (dA' er)) /\ Kp [] w w'):=by
 refine oF Tryz.func118 ?_;have hQ:=qk B;have hMM:=hM;obtain ⟨v1,v2,v3,v4,hMb,_,hEn,_,hcv⟩:=hM;obtain ⟨hh,hu⟩:=hf;have hhh:=hh;have huu:=hu;obtain ⟨n,hnE⟩:∃ n,(headT x).n = n:=⟨_,rfl⟩
 obtain ⟨bh,oh,ch,rfl,hi1,hi2,hi3,hhc⟩:=hh.hd;rw [hnE] at hhc;obtain ⟨au,cu,rfl,hu1,hu2⟩:=hu;have hfew:=hx.few;have hhF:=hx.head;have hlenh:=hhF.len;obtain ⟨RES,hRES⟩:∃ r,kp' B cx x = r:=⟨_,rfl⟩
 rw [hRES];unfold kp' at hRES;unfold bT' at hr;simp only [hnE] at hRES hr;refine cO (args:=[_,_]) 149 [.cell 4 161] τok Tryz.func118 ?_;refine new fun b3 w1 hb3 h3 hs1 hk1=>?_;have h3:Bk w1.heap b3 [.slice (some ⟨bh,oh,none⟩) (row (headT x)).length ch,.slice au (argsT x).length cu] 161:=h3;refine new fun b4 w2 hb4 h4 hs2 hk2=>?_;have k02:=hk1.tr hk2;have h3:=h3.kp hk2 (by simp);have hS2:=hS.tr k02;refine lb h3 ?_;refine ix 0 rfl (ag' _) ?_;refine ldN [iV n.op,iV n.a,iV n.b] rfl (fun j v hj=>hS2 _ _ _ (hhc j v hj)) ?_;refine new fun b5 w25 hb5 h5 hs25 hk25=>?_;refine stN (vs:=[iV n.op,iV n.a,iV n.b]) h5 rfl (by simp [Value.oneCell']) fun w3 h5 hs3 hk3=>?_;have k23:=hk25.newSt hb5 hk3;have k03:=k02.tr k23;have hS3:=hS.tr k03;have hold3:∀ b o v,C b o v -> b < w3.heap.size:=fun b o v h=>KZ (hold b o v h) k03.size;have h3:=h3.kp k23 (by simp);have h4:=h4.kp k23 (by simp);have hM3:=hMb.kp k03 (by simp);have hb4l:w.heap.size <= b4 /\ b4 < w3.heap.size:=⟨by have:=hk1.size; omega,h4.lt⟩
 refine lb h5 ?_;refine ac' (fun g1=>?_) (fun g1=>?_)
 ·have g1:n.op = 5:=g1
  rw [if_pos g1] at hRES hr;have hr:=of_decide_eq_true hr;obtain ⟨hk,hkl⟩:=bn' hhF.ok (by rw [hnE]; omega) (by rw [hnE]; omega);have hkc:ar' (headT x).n = 2:=by simp [ar',hnE,g1]
  have hbF:=hhF.kidN 1 (by rw [hk]; omega) (b:=1) (by simp [kb,aJ',hnE,g1]);obtain ⟨d,bo,hks⟩:=pd' (l:=(headT x).ks) (by omega);have hdk:kidD (headT x) 1 = bo:=by simp [kidD,hk,hks]
  have hdF:=(hhF.kidN 0 (by rw [hk]; omega) (b:=0) (by simp [kb,aJ',hnE,g1]))
  have hdd:kidD (headT x) 0 = d:=by simp [kidD,hk,hks]
  rw [hdk] at hbF hRES;rw [hdd] at hdF;have e0:=iy' (x:=headT x) (k:=0) (y:=d) (by rw [hks]; rfl);have e1:=iy' (x:=headT x) (k:=1) (y:=bo) (by rw [hks]; rfl);rw [hks] at e0 e1;simp only [List.take_zero,List.take_succ_cons,List.drop_succ_cons,List.drop_zero,rows,JD,List.drop_nil] at e0 e1;obtain ⟨a,ha,_⟩:=af' (l:=argsT x) (k:=0) hr;have ea:(argsT x).getD 0 (varX 0) = a:=by simp [ha]
  rw [ea] at hRES;have haF:=hx.args a (JQ ha);obtain ⟨ba,oa,ca,hve,z,hz,hzT⟩:=huu.get ha;injection hve with q1 q2 q3
  subst q1 q3;obtain ⟨a6,c6,hv6,hlc,hlc2,v6,hsl6,hT6⟩:=hhh.cut (p:=(headT x).n :: row d) (q:=[]) (by rw [JD]; exact e1);injection hv6 with q1 q2 q3
  subst q1 q3;have hpl:((headT x).n :: row d).length + (row bo).length = (row (headT x)).length:=by rw [e1]; simp; omega
  rw [hpl] at hsl6;refine cO' τok (fun z=>Kp [] w3 z) ?_;refine rP τok (rg 0 4) 3 (mR 7 4) (kQd w3) ?_;refine lk h3 ?_;refine lk h3 ?_;refine am' τok 4 2 (mR 7 5) rfl rfl rfl (by kernel_rfl) ?_;refine ab' (cP' (hS3.dr (w3.drawn + 1)) hhh hlenh (p:=[(headT x).n]) (q:=row bo) (y:=d) (by rw [e0]) hdF.ok (by simp)) ?_;rintro e w4 ⟨rfl,hk4⟩;have hk4:Kp [] w3 w4:=hk4.rd;refine ⟨.inl hk4,?_⟩;refine am' τok 5 1 (mR 7 6) rfl rfl rfl (by kernel_rfl) ?_;refine jV' τok rfl ((headT x).n :: row d).length v6 (by simp; omega) (by omega) hsl6 ?_;refine ⟨.inl hk4,?_⟩;refine rP τok [6] 0 (mR 7 7) hk4 ?_;refine dP ?_;have k04:=k03.tr hk4;have h34:=h3.kp hk4 (by simp);obtain ⟨a7,c7,hv7,v7,hsl7,hT7⟩:=huu.drop (k:=1) (by omega);injection hv7 with q1 q2 q3
  subst q1 q3;refine cO' τok (fun z=>Kp [] w4 z) ?_;refine rP τok [0,1,2,3,4,9,10,11] 6 (mB 14 [5,6,7,8,12,13]) (kQd w4) ?_;refine lk h34 ?_;refine ix 0 rfl (by omega) ?_;refine ldK ((hS.tr k04) _ _ _ hz) ?_;refine lk h34 ?_;refine jU' τok rfl 1 v7 rfl (by omega) hsl7 ?_;refine am' τok 5 5 (mB 14 [6,7,8,12,13]) rfl rfl rfl (by kernel_rfl) ?_;have hsb:=je' ((hS.tr k04).dr (w4.drawn + 1)) (fun b o v h=>KZ (hold b o v h) k04.size) (N:=(cx.length:Int)) (v:=0) (hbF.mono (by omega)) haF (by omega) hT6 hzT (by omega);refine ab' hsb ?_;rintro e w5 ⟨he,hk5⟩;have hk5:Kp [] w4 w5:=hk5.rd;have k05:=k04.tr hk5
  by_cases hbig:mm' bo a 0 = true
  ·rw [if_pos hbig] at he
   subst he;refine ⟨.inl hk5,?_⟩;refine rP τok [6,7] 3 (mB 14 [8,12,13]) hk5 ?_;refine am' τok 8 2 (mR 14 12) rfl rfl rfl (by kernel_rfl) ?_;refine ab' (bm' _ ⟨_,_,_,rfl⟩ 9 (by decide) w5) ?_;rintro e w6 ⟨rfl,hk6⟩;simp only [ay',if_pos hbig] at hRES;subst hRES;exact ⟨rfl,rfl,k05.tr hk6⟩
  rw [if_neg hbig] at he;obtain ⟨z5,rfl,hT5⟩:=he;have hsV:=IsTm.cn (C:=C) (w:=w) hT5 k04.size;obtain ⟨a5,c5,rfl,_⟩:=hT5;refine ⟨.inl hk5,?_⟩;refine rP τok [6,7] 3 (mB 14 [8,12,13]) hk5 ?_;refine am' τok 8 2 (mR 14 12) rfl rfl rfl (by kernel_rfl) ?_;refine ab' (aC' _ ⟨_,_,_,rfl⟩ w5) ?_;rintro e wA ⟨rfl,hk6⟩;have k4A:=hk5.tr hk6;refine ⟨.inl k4A,?_⟩;have kA:=hk4.tr k4A;refine am' τok 12 1 (mR 14 13) rfl rfl rfl (by kernel_rfl) ?_;have hse:ay' bo a 0 = .ok (bf' bo a 0):=by simp only [ay',if_neg hbig]
  have hsF:=az' hQ (N:=(cx.length:Int)) (v:=0) (hbF.mono (by omega)) haF (by omega) (by omega) (by omega) (by omega) hse;have hsF:=hsF.mono (M:=(cx.length:Int)) (by omega);rw [hse] at hRES;have hRES:aH' (bf' bo a 0) ((argsT x).drop 1) = RES:=hRES;have hsV:=hsV.mono (D:=Cn C w wA) fun _ _ _ h=>h.up hk6;have hlF:∀ y ∈ (argsT x).drop 1,Ft (QB B) (cx.length:Int) y:=fun y hy=>hx.args y (List.mem_of_mem_drop hy);have hln:((argsT x).drop 1).length <= 100000:=by simp; omega
  have hlV:TmsV (Cn C w wA) ((argsT x).drop 1) v7:=hT7.mono fun _ _ _ h=>.inl h;refine ab' (fA' hQ (Cn.sub hS (k03.tr kA)) hsF hlF hln hsV hlV) ?_;rintro e wB ⟨he,hkB⟩;have kB:=kA.tr hkB;have k0B:=k03.tr kB;unfold aH' at hRES
  by_cases hbig:4096 < (row (aj' (bf' bo a 0) ((argsT x).drop 1))).length
  ·rw [if_pos hbig] at he hRES
   subst he hRES;exact ⟨rfl,rfl,k0B⟩
  ·rw [if_neg hbig] at he hRES
   obtain ⟨hz,uz,rfl,hTz,hAz⟩:=he;subst hRES;refine ⟨.inl (k4A.tr hkB),?_⟩;obtain ⟨az,cz,rfl,hz1,hz2⟩:=hTz;obtain ⟨aw,cw,rfl,hw1,hw2⟩:=hAz;refine am' τok 13 0 (mR 14 14) rfl rfl rfl (by kernel_rfl) ?_;refine stN (vs:=[.slice az (row (headT (aj' (bf' bo a 0) ((argsT x).drop 1)))).length cz,.slice aw (argsT (aj' (bf' bo a 0) ((argsT x).drop 1))).length cw]) (h4.kp kB (by simp)) rfl (by simp [Value.oneCell']) fun wC h4' hsC hkC=>?_;refine ⟨.inr (by kernel_rfl),?_⟩;refine dP ?_;refine nl' τok rfl [_,_] rfl (fun j v hj=>h4'.cl hj) ?_;have hA:=(k03.tr kA).size;have hA3:=kA.size;refine ⟨⟨_,_,rfl,⟨az,cz,rfl,hz1.mono fun b o v h=>⟨KQ hA h.1,h.2.kp hkC (by have:=h.1; simp; omega)⟩,hz2⟩,⟨aw,cw,rfl,hw1.mono fun b o v h=>⟨KQ hA h.1,h.2.kp hkC (by have:=h.1; simp; omega)⟩,hw2⟩⟩,k0B.trans hkC fun x hx hl=>?_⟩;obtain rfl:x = b4:=by simpa using hx
   omega
 have g1:¬ n.op = 5:=g1;rw [if_neg g1] at hRES hr;refine ac' (fun g2=>?_) (fun g2=>?_)
 ·have g2:n.op = 7:=g2
  rw [if_pos g2] at hRES;obtain ⟨hk,hkl⟩:=bn' hhF.ok (by rw [hnE]; omega) (by rw [hnE]; omega);have hkc:ar' (headT x).n = 3:=by simp [ar',hnE,g2]
  have hbF:=hhF.kidN 2 (by rw [hk]; omega) (b:=1) (by simp [kb,aJ',hnE,g2]);have hvF:=hhF.kidN 1 (by rw [hk]; omega) (b:=0) (by simp [kb,aJ',hnE,g2]);have hdF:=hhF.kidN 0 (by rw [hk]; omega) (b:=0) (by simp [kb,aJ',hnE,g2]);obtain ⟨d,vv,bo,hks⟩:=kq' (l:=(headT x).ks) (by omega);have hdk:kidD (headT x) 2 = bo:=by simp [kidD,hk,hks]
  have hdv:kidD (headT x) 1 = vv:=by simp [kidD,hk,hks]
  have hdd:kidD (headT x) 0 = d:=by simp [kidD,hk,hks]
  rw [hdk,hdv] at hRES;rw [hdk] at hbF;rw [hdv] at hvF;rw [hdd] at hdF;have e0:=iy' (x:=headT x) (k:=0) (y:=d) (by rw [hks]; rfl);have e1:=iy' (x:=headT x) (k:=1) (y:=vv) (by rw [hks]; rfl);have e2:=iy' (x:=headT x) (k:=2) (y:=bo) (by rw [hks]; rfl);rw [hks] at e0 e1 e2;simp only [List.take_zero,List.take_succ_cons,List.drop_succ_cons,List.drop_zero,rows,JD,List.drop_nil] at e0 e1 e2;obtain ⟨a6,c6,hv6,hlc,hlc2,v6,hsl6,hT6⟩:=hhh.cut (p:=(headT x).n :: (row d ++ row vv)) (q:=[]) (by rw [JD]; exact e2);injection hv6 with q1 q2 q3
  subst q1 q3;have hpl:((headT x).n :: (row d ++ row vv)).length + (row bo).length = (row (headT x)).length:=by rw [e2]; simp; omega
  rw [hpl] at hsl6;obtain ⟨a7,c7,hv7,hlc7,hlc8,v7,hsl7,hT7⟩:=hhh.cut (p:=(headT x).n :: row d) (q:=row bo) e1;injection hv7 with q1 q2 q3
  subst q1 q3;refine lb h3 ?_;refine ab' (cP' hS3 hhh hlenh (p:=[(headT x).n]) (q:=row vv ++ row bo) (y:=d) (by rw [e0]) hdF.ok (by simp)) ?_;rintro e w4 ⟨rfl,hk4⟩;refine lb (h3.kp hk4 (by simp)) ?_;refine ab' (cP' (hS3.tr hk4) hhh hlenh (p:=(headT x).n :: row d) (q:=row bo) (y:=vv) e1 hvF.ok (by simp; omega)) ?_;rintro e w5 ⟨rfl,hk5⟩;have k35:=hk4.tr hk5;have k05:=k03.tr k35;have h35:=h3.kp k35 (by simp);refine cO' τok (fun z=>Kp [] w5 z) ?_;refine rP τok [0,1,2,3,4,5,6,7,8,13,14] 6 (mB 17 [9,10,11,12,15,16]) (kQd w5) ?_;refine lk h35 ?_;refine jU' τok rfl ((headT x).n :: (row d ++ row vv)).length v6 (by simp; omega) (by omega) hsl6 ?_;refine lk h35 ?_;refine cw' τok rfl ((headT x).n :: row d).length (((headT x).n :: row d).length + (row vv).length) v7 (by simp; omega) rfl (by omega) (by omega) hsl7 ?_;refine lk h35 ?_;refine am' τok 9 5 (mB 17 [10,11,12,15,16]) rfl rfl rfl (by kernel_rfl) ?_;have hsb:=je' ((hS.tr k05).dr (w5.drawn + 1)) (fun b o v h=>KZ (hold b o v h) k05.size) (N:=(cx.length:Int)) (v:=0) (hbF.mono (by omega)) (hvF.mono (by omega)) (by omega) hT6 hT7 (by omega);refine ab' hsb ?_;rintro e w6 ⟨he,hk6⟩;have hk6:Kp [] w5 w6:=hk6.rd;have k06:=k05.tr hk6
  by_cases hbig:mm' bo vv 0 = true
  ·rw [if_pos hbig] at he
   subst he;refine ⟨.inl hk6,?_⟩;refine rP τok [10,11] 3 (mB 17 [12,15,16]) hk6 ?_;refine am' τok 12 2 (mR 17 15) rfl rfl rfl (by kernel_rfl) ?_;refine ab' (bm' _ ⟨_,_,_,rfl⟩ 9 (by decide) w6) ?_;rintro e w7 ⟨rfl,hk7⟩;simp only [ay',if_pos hbig] at hRES;subst hRES;exact ⟨rfl,rfl,k06.tr hk7⟩
  rw [if_neg hbig] at he;obtain ⟨z5,rfl,hT5⟩:=he;have hsV:=IsTm.cn (C:=C) (w:=w) hT5 k05.size;obtain ⟨a5,c5,rfl,_⟩:=hT5;refine ⟨.inl hk6,?_⟩;refine rP τok [10,11] 3 (mB 17 [12,15,16]) hk6 ?_;refine am' τok 12 2 (mR 17 15) rfl rfl rfl (by kernel_rfl) ?_;refine ab' (aC' _ ⟨_,_,_,rfl⟩ w6) ?_;rintro e wA ⟨rfl,hk7⟩;have k4A:=hk6.tr hk7;refine ⟨.inl k4A,?_⟩;have kA:=k35.tr k4A;refine am' τok 15 1 (mR 17 16) rfl rfl rfl (by kernel_rfl) ?_;have hse:ay' bo vv 0 = .ok (bf' bo vv 0):=by simp only [ay',if_neg hbig]
  have hsF:=az' hQ (N:=(cx.length:Int)) (v:=0) (hbF.mono (by omega)) (hvF.mono (by omega)) (by omega) (by omega) (by omega) (by omega) hse;have hsF:=hsF.mono (M:=(cx.length:Int)) (by omega);rw [hse] at hRES;have hRES:aH' (bf' bo vv 0) (argsT x) = RES:=hRES;have hsV:=hsV.mono (D:=Cn C w wA) fun _ _ _ h=>h.up hk7;have hlF:=hx.args;have hln:(argsT x).length <= 100000:=by omega
  have hlV:TmsV (Cn C w wA) (argsT x) _:=huu.mono fun _ _ _ h=>.inl h;refine ab' (fA' hQ (Cn.sub hS (k03.tr kA)) hsF hlF hln hsV hlV) ?_;rintro e wB ⟨he,hkB⟩;have kB:=kA.tr hkB;have k0B:=k03.tr kB;unfold aH' at hRES
  by_cases hbig:4096 < (row (aj' (bf' bo vv 0) (argsT x))).length
  ·rw [if_pos hbig] at he hRES
   subst he hRES;exact ⟨rfl,rfl,k0B⟩
  ·rw [if_neg hbig] at he hRES
   obtain ⟨hz,uz,rfl,hTz,hAz⟩:=he;subst hRES;refine ⟨.inl (k4A.tr hkB),?_⟩;obtain ⟨az,cz,rfl,hz1,hz2⟩:=hTz;obtain ⟨aw,cw,rfl,hw1,hw2⟩:=hAz;refine am' τok 16 0 (mR 17 17) rfl rfl rfl (by kernel_rfl) ?_;refine stN (vs:=[.slice az (row (headT (aj' (bf' bo vv 0) (argsT x)))).length cz,.slice aw (argsT (aj' (bf' bo vv 0) (argsT x))).length cw]) (h4.kp kB (by simp)) rfl (by simp [Value.oneCell']) fun wC h4' hsC hkC=>?_;refine ⟨.inr (by kernel_rfl),?_⟩;refine dP ?_;refine nl' τok rfl [_,_] rfl (fun j v hj=>h4'.cl hj) ?_;have hA:=(k03.tr kA).size;have hA3:=kA.size;refine ⟨⟨_,_,rfl,⟨az,cz,rfl,hz1.mono fun b o v h=>⟨KQ hA h.1,h.2.kp hkC (by have:=h.1; simp; omega)⟩,hz2⟩,⟨aw,cw,rfl,hw1.mono fun b o v h=>⟨KQ hA h.1,h.2.kp hkC (by have:=h.1; simp; omega)⟩,hw2⟩⟩,k0B.trans hkC fun x hx hl=>?_⟩;obtain rfl:x = b4:=by simpa using hx
   omega
 have g2:¬ n.op = 7:=g2;rw [if_neg g2] at hRES;refine ac' (fun g3=>?_) (fun g3=>?_)
 ·have g3:n.op = 1:=g3
  rw [if_pos g3] at hRES;rw [if_neg (by omega),if_pos g3] at hr;obtain ⟨hd,ks,hks⟩:∃ m ks,headT x = .mk m ks:=by
   cases headT x with
   | mk m ks=>exact ⟨m,ks,rfl⟩
  have hmn:hd = n:=by rw [hks] at hnE; exact hnE
  subst hmn;obtain ⟨ha0,ha1,_⟩:0 <= hd.a /\ hd.a < (cx.length:Int) /\ ks = []:=by
   rw [hks] at hhF;exact hhF.var_lt g3
  have hget:=cf' ha0 ha1;obtain ⟨va,hva⟩:=Option.isSome_iff_exists.1 hr;have hvF:=(hcx _ _ hget).2 va hva;rw [hva] at hRES;have hml:(cx.map bdR).length = cx.length:=by simp
  obtain ⟨bc,oc,cc,rfl,hat⟩:=hcv.at (i:=cx.length - 1 - hd.a.toNat) (x:=bdR (ge' cx hd.a)) (by rw [JX,hget]; rfl)
  obtain ⟨vt,vv,hbc,_,hvv⟩:=oX' hat;have hvv:TmV C va vv:=by
   have:(bdR (ge' cx hd.a)).2 = row va:=by simp [bdR,hva,nM']
   rw [this] at hvv;exact hvv
  refine cO' τok (fun z=>Kp [] w3 z) ?_;refine rP τok [0,1,2,3,4,5,6,7,8,9,10,11,12,13,14,15,16,17,18,23,24] 6 (mB 27 [19,20,21,22,25,26]) (kQd w3) ?_;refine lk hM3 ?_;refine lk hM3 ?_;refine i6 ?_;refine lk h5 ?_;refine i6 ?_;refine ix (cx.length - 1 - hd.a.toNat) (by omega) (by omega) ?_;refine ldK (hS3 _ _ _ (hbc 1 _ rfl)) ?_;refine lk h5 ?_;refine i6 ?_;refine lk h3 ?_;refine am' τok 19 5 (mB 27 [20,21,22,25,26]) rfl rfl rfl (by kernel_rfl) ?_;refine ab' (dG' (hS3.dr (w3.drawn + 1)) hold3 hvF (by omega) hvv (b:=hd.a + 1) (by omega)) ?_;rintro e w5 ⟨z5,rfl,hT5,hk5⟩;have hk5:Kp [] w3 w5:=hk5.rd;have k05:=k03.tr hk5;have hsV:=IsTm.cn (C:=C) (w:=w) hT5 k03.size;obtain ⟨a5,c5,rfl,_⟩:=hT5;refine ⟨.inl hk5,?_⟩;refine rP τok [20,21] 3 (mB 27 [22,25,26]) hk5 ?_;refine am' τok 22 2 (mR 27 25) rfl rfl rfl (by kernel_rfl) ?_;refine ab' (aC' _ ⟨_,_,_,rfl⟩ w5) ?_;rintro e wA ⟨rfl,hk6⟩;have kA:=hk5.tr hk6;refine ⟨.inl kA,?_⟩;refine am' τok 25 1 (mR 27 26) rfl rfl rfl (by kernel_rfl) ?_;have hsF:=(hvF.lift hQ (by omega) (b:=hd.a + 1) (by omega) (by omega)).mono (M:=(cx.length:Int)) (by omega);have hRES:aH' (aq' va (hd.a + 1) 0) (argsT x) = RES:=hRES;have hsV:=hsV.mono (D:=Cn C w wA) fun _ _ _ h=>h.up hk6;have hlF:=hx.args;have hln:(argsT x).length <= 100000:=by omega
  have hlV:TmsV (Cn C w wA) (argsT x) _:=huu.mono fun _ _ _ h=>.inl h;refine ab' (fA' hQ (Cn.sub hS (k03.tr kA)) hsF hlF hln hsV hlV) ?_;rintro e wB ⟨he,hkB⟩;have kB:=kA.tr hkB;have k0B:=k03.tr kB;unfold aH' at hRES
  by_cases hbig:4096 < (row (aj' (aq' va (hd.a + 1) 0) (argsT x))).length
  ·rw [if_pos hbig] at he hRES
   subst he hRES;exact ⟨rfl,rfl,k0B⟩
  ·rw [if_neg hbig] at he hRES
   obtain ⟨hz,uz,rfl,hTz,hAz⟩:=he;subst hRES;refine ⟨.inl (kA.tr hkB),?_⟩;obtain ⟨az,cz,rfl,hz1,hz2⟩:=hTz;obtain ⟨aw,cw,rfl,hw1,hw2⟩:=hAz;refine am' τok 26 0 (mR 27 27) rfl rfl rfl (by kernel_rfl) ?_;refine stN (vs:=[.slice az (row (headT (aj' (aq' va (hd.a + 1) 0) (argsT x)))).length cz,.slice aw (argsT (aj' (aq' va (hd.a + 1) 0) (argsT x))).length cw]) (h4.kp kB (by simp)) rfl (by simp [Value.oneCell']) fun wC h4' hsC hkC=>?_;refine ⟨.inr (by kernel_rfl),?_⟩;refine dP ?_;refine nl' τok rfl [_,_] rfl (fun j v hj=>h4'.cl hj) ?_;have hA:=(k03.tr kA).size;have hA3:=kA.size;refine ⟨⟨_,_,rfl,⟨az,cz,rfl,hz1.mono fun b o v h=>⟨KQ hA h.1,h.2.kp hkC (by have:=h.1; simp; omega)⟩,hz2⟩,⟨aw,cw,rfl,hw1.mono fun b o v h=>⟨KQ hA h.1,h.2.kp hkC (by have:=h.1; simp; omega)⟩,hw2⟩⟩,k0B.trans hkC fun x hx hl=>?_⟩;obtain rfl:x = b4:=by simpa using hx
   omega
 have g3:¬ n.op = 1:=g3;rw [if_neg g3] at hRES;refine ac' (fun g4=>?_) (fun g4=>?_)
 ·have g4:n.op = 8:=g4
  rw [if_pos g4] at hRES;obtain ⟨i,en,ty,bo,hna,hi,hxD,hGD⟩:=hB.dfn hhF.node' (by rw [hnE]; exact g4);rw [hnE] at hna hxD;rw [hxD,hGD.body,cJ' hGD.fb.ok] at hRES;obtain ⟨be,oe,ce,rfl,hat⟩:=hEn.at hi;obtain ⟨f1,f2,f3,f4,f5,f6,hcs,_,_,_,_,_,_,hbo⟩:=eB' hat;have hbo':TmV C bo f6:=by rw [hGD.body] at hbo; exact hbo
  refine cO' τok (fun z=>Kp [] w3 z) ?_;refine rP τok (rg 0 12) 2 (mR 14 12) (kQd w3) ?_;refine lk hM3 ?_;refine lk h5 ?_;refine ix i hna (ai' hi) ?_;refine ldK (hS3 _ _ _ (hcs 6 _ rfl)) ?_;refine lk h3 ?_;refine am' τok 12 1 (mR 14 13) rfl rfl rfl (by kernel_rfl) ?_;obtain ⟨wA,hwA⟩:∃ wA,wA = (dr w3):=⟨_,rfl⟩
  have kA:Kp [] w3 wA:=by rw [hwA]; exact (Kp.refl [] w3).dr _
  rw [<- hwA];have hsF:=(hGD.fb.wk fun m hm=>dV' (Nat.le_of_lt (ai' hi)) hm).mono (M:=(cx.length:Int)) (by omega);have hsF:Ft (QB B) (cx.length:Int) bo:=hsF;have hsV:TmV (Cn C w wA) bo f6:=hbo'.mono fun _ _ _ h=>.inl h;have hlF:=hx.args;have hln:(argsT x).length <= 100000:=by omega
  have hlV:TmsV (Cn C w wA) (argsT x) _:=huu.mono fun _ _ _ h=>.inl h;refine ab' (fA' hQ (Cn.sub hS (k03.tr kA)) hsF hlF hln hsV hlV) ?_;rintro e wB ⟨he,hkB⟩;have kB:=kA.tr hkB;have k0B:=k03.tr kB;unfold aH' at hRES
  by_cases hbig:4096 < (row (aj' bo (argsT x))).length
  ·rw [if_pos hbig] at he hRES
   subst he hRES;exact ⟨rfl,rfl,k0B⟩
  ·rw [if_neg hbig] at he hRES
   obtain ⟨hz,uz,rfl,hTz,hAz⟩:=he;subst hRES;refine ⟨.inl (kA.tr hkB),?_⟩;obtain ⟨az,cz,rfl,hz1,hz2⟩:=hTz;obtain ⟨aw,cw,rfl,hw1,hw2⟩:=hAz;refine am' τok 13 0 (mR 14 14) rfl rfl rfl (by kernel_rfl) ?_;refine stN (vs:=[.slice az (row (headT (aj' bo (argsT x)))).length cz,.slice aw (argsT (aj' bo (argsT x))).length cw]) (h4.kp kB (by simp)) rfl (by simp [Value.oneCell']) fun wC h4' hsC hkC=>?_;refine ⟨.inr (by kernel_rfl),?_⟩;refine dP ?_;refine nl' τok rfl [_,_] rfl (fun j v hj=>h4'.cl hj) ?_;have hA:=(k03.tr kA).size;have hA3:=kA.size;refine ⟨⟨_,_,rfl,⟨az,cz,rfl,hz1.mono fun b o v h=>⟨KQ hA h.1,h.2.kp hkC (by have:=h.1; simp; omega)⟩,hz2⟩,⟨aw,cw,rfl,hw1.mono fun b o v h=>⟨KQ hA h.1,h.2.kp hkC (by have:=h.1; simp; omega)⟩,hw2⟩⟩,k0B.trans hkC fun x hx hl=>?_⟩;obtain rfl:x = b4:=by simpa using hx
   omega
 have g4:¬ n.op = 8:=g4;rw [if_neg g4] at hRES;rw [if_neg (by omega),if_neg g3] at hr;refine ac' (fun g5=>?_) (fun g5=>?_)
 ·have g5:n.op = 11:=g5
  rw [if_pos g5] at hRES hr;obtain ⟨hk,hkl,hb0,hb1⟩:=aA' hhF.ok (by rw [hnE]; exact g5);have hsK:=(hhF.kidD (k:=1) (by rw [hk]; omega))
  have hsF1:=hhF.kidN 1 (by rw [hk]; omega) (b:=0) (by simp [kb,aJ',hnE,g5]);obtain ⟨s,hsE⟩:∃ s,kidD (headT x) 1 = s:=⟨_,rfl⟩
  rw [hsE] at hsK hsF1 hRES hr;rw [Int.add_zero] at hsF1;obtain ⟨f1,f2,f3,f4,f5⟩:=lz' hB hsF1 hr;rw [hnE] at hb0 hb1 hkl;obtain ⟨cb,hcb⟩:∃ cb:Nat,(headT s).n.b = (cb:Int):=⟨(headT s).n.b.toNat,by omega⟩
  have hcbt:(headT s).n.b.toNat = cb:=by omega
  rw [hcbt] at hRES;have hjl:2 + cb < (kidsT (headT x)).length:=by rw [hk]; omega
  have hkj:=hhF.kidD (k:=2 + cb) hjl;have hjF:=hhF.kidN (2 + cb) hjl (b:=0) (by simp [kb,aJ',hnE,g5]);rw [Int.add_zero] at hjF;obtain ⟨i,en,so,ps,qi,hna,hi,hxe,hxD,hGF⟩:=hB.fam (jk' hhF.node' (.inr (by rw [hnE]; exact g5))) (KJ _);rw [hnE] at hna hxD;obtain ⟨be,oe,ce,rfl,hat⟩:=hEn.at hxe;obtain ⟨e1,e2,e3,e4,e5,e6,hcs,_,_,hpa,_,_,_,_⟩:=eB' hat;obtain ⟨ap,cp,rfl,_,_⟩:=hpa;have hnp:nPar B n.a = en.params.length:=by simp [nPar,hxD]
  refine lb h3 ?_;refine ab' (dU' hS3 hold3 hhF hhh) ?_;rintro e w4 ⟨uk,rfl,huk,hk4⟩;have k04:=k03.tr hk4;obtain ⟨bk,ok,ck,rfl,z,hz,hzT⟩:=TmsV.get (C:=New w3.heap.size w4) huk hsK.1;obtain ⟨bk',ok',ck',hve,zj,hzj,hzjT⟩:=TmsV.get (C:=New w3.heap.size w4) huk hkj.1;injection hve with q1 q2 q3
  injection q1 with q1
  injection q1 with q4 q5 q6
  subst q4 q5 q3;refine ix 1 rfl (by omega) ?_;refine ldC (New.sub _ _) hz ?_;refine ab' (cD' (New.sub w3.heap.size w4) (fun b o v h=>h.2.lt) hsF1 hzT) ?_;rintro e w5 ⟨hs5,us5,rfl,hT5,hA5,hk5⟩;have k05:=k04.tr hk5;obtain ⟨bs,os,cs5,rfl,_,_,_,hc5⟩:=TmV.hd (C:=New w4.heap.size w5) hT5;obtain ⟨a5,c5,vs1,rfl,hlc5,hvs1,hpc1⟩:=TmsV.vals (C:=New w4.heap.size w5) hA5;refine new fun b10 w55 hb10 h10 hs55 hk55=>?_;refine stN (vs:=[.slice (some ⟨bs,os,none⟩) (row (headT s)).length cs5,.slice a5 (argsT s).length c5]) h10 rfl (by simp [Value.oneCell']) fun w6 h10 hs6 hk6=>?_;have k56:=hk55.newSt hb10 hk6;have k46:=hk5.tr k56;have k36:=hk4.tr k46;have k06:=k03.tr k36;have h36:=h3.kp k36 (by simp);have h56:=h5.kp k36 (by simp);have hM6:=hM3.kp k36 (by simp);have hS6:=hS.tr k06;obtain ⟨ad,cd,hvd,vd,hsld,hTd⟩:=TmsV.drop (C:=New w4.heap.size w5) hA5 (k:=en.params.length) (by omega);injection hvd with q1 q2 q3
  subst q1 q3;obtain ⟨a7,c7,vs7,rfl,hl7,hvs7,hpc7⟩:=hTd.vals;obtain ⟨a8,c8,vs8,hv8,hl8,hvs8,hpc8⟩:=huu.vals;injection hv8 with q1 q2 q3
  subst q1 q3;refine cO' τok (fun z=>Kp [] w6 z) ?_;refine rP τok (rg 0 25) 4 (mR 29 25) (kQd w6) ?_;refine lk h10 ?_;refine ix 0 rfl (ag' _) ?_;refine ldK ((hc5 2 _ rfl).2.cl.kp k56 (by simp)) ?_;refine i6 ?_;refine ix (2 + cb) (by omega) hjl ?_;refine ldK (hzj.2.cl.kp k46 (by simp)) ?_;refine lk h10 ?_;refine lk hM6 ?_;refine lk h56 ?_;refine ix i hna (ai' hxe) ?_;refine ldK (hS6 _ _ _ (hcs 2 _ rfl)) ?_;refine jU' τok rfl en.params.length _ rfl (by omega) hsld ?_;refine lk h36 ?_;refine am' τok 25 3 (mR 29 26) rfl rfl rfl (by kernel_rfl) ?_;refine fill [.slice a7 ((argsT s).drop en.params.length).length c7,.slice au (argsT x).length cu] rfl ?_;refine new fun b7 w7 hb7 h7 hs7 hk7=>?_;have hk7:Kp [] w6 w7:=hk7.rd;refine ⟨.inl hk7,?_⟩;refine am' τok 26 2 (mR 29 27) rfl rfl rfl (by kernel_rfl) ?_;have k47:=k46.tr hk7;have k57:=k56.tr hk7;have k37:=k36.tr hk7;have k07:=k06.tr hk7;have hlen7:vs7.length = ((argsT s).drop en.params.length).length:=hpc7.1;have hlen8:vs8.length = (argsT x).length:=hpc8.1;have hsfew:=hsF1.few;have hcc:=lx' (D:=Im [] w7) (w:=w7) (Im.sub _ _) [vs7,vs8] (some ⟨b7,0,none⟩) 2 ⟨by simp,.inr ⟨b7,0,rfl,fun j l hj=>by
   match j,hj with
   | 0,hj =>
    obtain rfl:=JB hj;exact ⟨[_],⟨a7,c7,by rw [hlen7],hvs7.mono fun b o v h=>⟨h.2.cl.kp k57 (by simp),by simp⟩⟩,fun m t hm=>by
     match m,hm with
     | 0,hm =>
      obtain rfl:=JB hm;exact ⟨h7.cl rfl,by simp⟩⟩
   | 1,hj =>
    obtain rfl:=JB hj;exact ⟨[_],⟨au,cu,by rw [hlen8],hvs8.mono fun b o v h=>⟨(hS _ _ _ h).kp k07 (by simp),by simp⟩⟩,fun m t hm=>by
     match m,hm with
     | 0,hm =>
      obtain rfl:=JB hm;exact ⟨h7.cl rfl,by simp⟩⟩⟩⟩ (by simp) (by simp [hlen7,hlen8]; omega)
  refine ab' hcc ?_;rintro e wA ⟨vA,rfl,hOA,hk8⟩;have k7A:=hk7.tr hk8;refine ⟨.inl k7A,?_⟩;have kA:=k36.tr k7A;have hpc9:Pcs (Cn C w wA) [vs7,vs8].flatten ((argsT s).drop (nPar B n.a) ++ argsT x):=by
   rw [hnp];have e9:[vs7,vs8].flatten = vs7 ++ vs8:=by simp
   rw [e9];exact Pcs.app (C:=Cn C w wA) (hpc7.mono fun b o v h=>.inr ⟨KQ k04.size h.1,h.2.kp (k57.tr hk8) (by simp)⟩) (hpc8.mono fun b o v h=>.inl h)
  have hlV:TmsV (Cn C w wA) ((argsT s).drop (nPar B n.a) ++ argsT x) vA:=Own.tms hOA hpc9 (fun b o v h=>.inr ⟨KQ k07.size h.1,h.2⟩) (by simp [hlen7,hlen8]; omega);have hlV':=hlV;obtain ⟨_,_,rfl,_,_⟩:=hlV';refine am' τok 27 1 (mR 29 28) rfl rfl rfl (by kernel_rfl) ?_;have hsF:=hjF;have hsV:TmV (Cn C w wA) (kidD (headT x) (2 + cb)) zj:=hzjT.mono fun b o v h=>.inr ⟨KQ k03.size h.1,h.2.kp (k46.tr k7A) (by simp)⟩;have hlF:∀ y ∈ (argsT s).drop (nPar B n.a) ++ argsT x,Ft (QB B) (cx.length:Int) y:=fun y hy=>by
   rcases List.mem_append.1 hy with hy | hy
   ·exact hsF1.args y (List.mem_of_mem_drop hy)
   ·exact hx.args y hy
  have hln:((argsT s).drop (nPar B n.a) ++ argsT x).length <= 100000:=by simp; omega
  refine ab' (fA' hQ (Cn.sub hS (k03.tr kA)) hsF hlF hln hsV hlV) ?_;rintro e wB ⟨he,hkB⟩;have kB:=kA.tr hkB;have k0B:=k03.tr kB;unfold aH' at hRES
  by_cases hbig:4096 < (row (aj' (kidD (headT x) (2 + cb)) ((argsT s).drop (nPar B n.a) ++ argsT x))).length
  ·rw [if_pos hbig] at he hRES
   subst he hRES;exact ⟨rfl,rfl,k0B⟩
  ·rw [if_neg hbig] at he hRES
   obtain ⟨hz,uz,rfl,hTz,hAz⟩:=he;subst hRES;refine ⟨.inl (k7A.tr hkB),?_⟩;obtain ⟨az,cz,rfl,hz1,hz2⟩:=hTz;obtain ⟨aw,cw,rfl,hw1,hw2⟩:=hAz;refine am' τok 28 0 (mR 29 29) rfl rfl rfl (by kernel_rfl) ?_;refine stN (vs:=[.slice az (row (headT (aj' (kidD (headT x) (2 + cb)) ((argsT s).drop (nPar B n.a) ++ argsT x)))).length cz,.slice aw (argsT (aj' (kidD (headT x) (2 + cb)) ((argsT s).drop (nPar B n.a) ++ argsT x))).length cw]) (h4.kp kB (by simp)) rfl (by simp [Value.oneCell']) fun wC h4' hsC hkC=>?_;refine ⟨.inr (by kernel_rfl),?_⟩;refine dP ?_;refine nl' τok rfl [_,_] rfl (fun j v hj=>h4'.cl hj) ?_;have hA:=(k03.tr kA).size;have hA3:=kA.size;refine ⟨⟨_,_,rfl,⟨az,cz,rfl,hz1.mono fun b o v h=>⟨KQ hA h.1,h.2.kp hkC (by have:=h.1; simp; omega)⟩,hz2⟩,⟨aw,cw,rfl,hw1.mono fun b o v h=>⟨KQ hA h.1,h.2.kp hkC (by have:=h.1; simp; omega)⟩,hw2⟩⟩,k0B.trans hkC fun x hx hl=>?_⟩;obtain rfl:x = b4:=by simpa using hx
   omega
 have g5:¬ n.op = 11:=g5;rw [if_neg g5] at hRES hr;have g6:n.op = 12:=by
  split at hr
  ·assumption
  ·cases hr
 refine cO' τok (fun z=>Kp [] w3 z) ?_;refine rP τok [0,1,3,4] 3 (mB 7 [2,5,6]) (kQd w3) ?_;refine lk h3 ?_;refine lk h3 ?_;refine am' τok 2 2 (mR 7 5) rfl rfl rfl (by kernel_rfl) ?_;refine ab' (ly' hQ (hS3.dr (w3.drawn + 1)) hold3 hhF (by rw [hnE]; exact g6) (by omega) (by omega) hhh) ?_;rintro e wA ⟨he,hkA⟩;have kA:Kp [] w3 wA:=hkA.rd;cases hu:dg' (headT x) with
 | error er =>
  rw [hu] at he hRES;simp only at he;subst he;subst hRES;exact ⟨rfl,rfl,k03.tr kA⟩
 | ok z =>
  rw [hu] at he hRES;obtain ⟨uz,rfl,huz⟩:=he;have hRES:aH' z (argsT x) = RES:=hRES;refine ⟨.inl kA,?_⟩;have huz':=huz;obtain ⟨_,_,rfl,_,_⟩:=huz';refine am' τok 5 1 (mR 7 6) rfl rfl rfl (by kernel_rfl) ?_;have hsF:=gU' hQ hhF (by rw [hnE]; exact g6) (by omega) (by omega) hu;have hsV:TmV (Cn C w wA) z _:=huz.mono fun b o v h=>h.elim .inl fun h=>.inr ⟨KQ k03.size h.1,h.2⟩;have hlF:=hx.args;have hln:(argsT x).length <= 100000:=by omega
  have hlV:TmsV (Cn C w wA) (argsT x) _:=huu.mono fun _ _ _ h=>.inl h;refine ab' (fA' hQ (Cn.sub hS (k03.tr kA)) hsF hlF hln hsV hlV) ?_;rintro e wB ⟨he,hkB⟩;have kB:=kA.tr hkB;have k0B:=k03.tr kB;unfold aH' at hRES
  by_cases hbig:4096 < (row (aj' z (argsT x))).length
  ·rw [if_pos hbig] at he hRES
   subst he hRES;exact ⟨rfl,rfl,k0B⟩
  ·rw [if_neg hbig] at he hRES
   obtain ⟨hz,uz,rfl,hTz,hAz⟩:=he;subst hRES;refine ⟨.inl (kA.tr hkB),?_⟩;obtain ⟨az,cz,rfl,hz1,hz2⟩:=hTz;obtain ⟨aw,cw,rfl,hw1,hw2⟩:=hAz;refine am' τok 6 0 (mR 7 7) rfl rfl rfl (by kernel_rfl) ?_;refine stN (vs:=[.slice az (row (headT (aj' z (argsT x)))).length cz,.slice aw (argsT (aj' z (argsT x))).length cw]) (h4.kp kB (by simp)) rfl (by simp [Value.oneCell']) fun wC h4' hsC hkC=>?_;refine ⟨.inr (by kernel_rfl),?_⟩;refine dP ?_;refine nl' τok rfl [_,_] rfl (fun j v hj=>h4'.cl hj) ?_;have hA:=(k03.tr kA).size;have hA3:=kA.size;refine ⟨⟨_,_,rfl,⟨az,cz,rfl,hz1.mono fun b o v h=>⟨KQ hA h.1,h.2.kp hkC (by have:=h.1; simp; omega)⟩,hz2⟩,⟨aw,cw,rfl,hw1.mono fun b o v h=>⟨KQ hA h.1,h.2.kp hkC (by have:=h.1; simp; omega)⟩,hw2⟩⟩,k0B.trans hkC fun x hx hl=>?_⟩;obtain rfl:x = b4:=by simpa using hx
   omega
end
def len (x:Tr):Int:=((row x).length:Int)
abbrev Rc:=Tr -> Int -> Nat -> Except Int (Tr × Nat)
def kY' (rc:Rc) (x:Tr) (room:Int) (n:Nat):Except Int (Tr × Nat):=match df' x with
 | none=>.ok (x,n)
 | some p=>match rc p (room - len x + len p) n with
  | .error e=>.error e
  | .ok q=>.ok (dB' x q.1,q.2)
def gg' (B:BoT) (cx:Ctx) (rc:Rc) (room:Int) (q:Tr × Nat):Except Int (Tr × Nat) :=
 if bT' B cx q.1 = true then
  (if q.2 = 0 then .error 10 else match kp' B cx q.1 with
   | .error e=>.error e
   | .ok z=>if room < len z then .error 9 else rc z room (q.2 - 1))
 else .ok q
def bb' (B:BoT) (cx:Ctx):Nat -> Rc
 | 0,_,_,_=>.error 10
 | g + 1,x,room,n=>match kY' (bb' B cx g) x room n with
  | .error e=>.error e
  | .ok q=>gg' B cx (bb' B cx g) room q
section
variable {B:BoT} {cx:Ctx}
mutual
theorem fD' (hB:GoodB B) (hcx:CxOk B cx) (hN:cx.length <= 90000):∀ (g:Nat) (x:Tr) (room:Int) (n:Nat) (z:Tr) (n':Nat),Ft (QB B) (cx.length:Int) x -> len x <= room -> room <= 4096 -> bb' B cx g x room n = .ok (z,n') -> Ft (QB B) (cx.length:Int) z /\ len z <= room /\ n' <= n
 | 0,x,room,n,z,n',_,_,_,h=>by cases h
 | g + 1,x,room,n,z,n',hx,hl,hr,h=>by
  have key:∀ (q:Tr × Nat),Ft (QB B) (cx.length:Int) q.1 -> len q.1 <= room -> q.2 <= n -> gg' B cx (bb' B cx g) room q = .ok (z,n') -> Ft (QB B) (cx.length:Int) z /\ len z <= room /\ n' <= n:=by
   intro q hq hql hqn h;unfold gg' at h;split at h
   ·rename_i hrd
    split at h
    ·cases h
    ·cases ho:kp' B cx q.1 with
     | error e=>rw [ho] at h; cases h
     | ok y =>
      rw [ho] at h;simp only at h;split at h
      ·cases h
      ·rename_i g3
       have:=fD' hB hcx hN g y room (q.2 - 1) z n' (pb' hB hcx hN hq hrd ho) (by omega) hr h;exact ⟨this.1,this.2.1,by omega⟩
   ·injection h with h
    subst h;exact ⟨hq,hql,hqn⟩
  simp only [bb'] at h;cases hp:kY' (bb' B cx g) x room n with
  | error e=>rw [hp] at h; cases h
  | ok q =>
   rw [hp] at h;obtain ⟨i1,i2,i3⟩:=ve' hB hcx hN g hx hl hr hp;exact key q i1 i2 i3 h
theorem ve' (hB:GoodB B) (hcx:CxOk B cx) (hN:cx.length <= 90000) (g:Nat) {x:Tr} {room:Int} {n:Nat} {q:Tr × Nat} (hx:Ft (QB B) (cx.length:Int) x) (hl:len x <= room) (hr:room <= 4096) (h:kY' (bb' B cx g) x room n = .ok q):Ft (QB B) (cx.length:Int) q.1 /\ len q.1 <= room /\ q.2 <= n:=by
 unfold kY' at h;cases hp:df' x with
 | none =>
  rw [hp] at h;injection h with h
  subst h;exact ⟨hx,hl,KJ _⟩
 | some p =>
  rw [hp] at h;simp only at h;obtain ⟨hpF,hpl⟩:=lw' hx hp;cases hw:bb' B cx g p (room - len x + len p) n with
  | error e=>rw [hw] at h; cases h
  | ok q' =>
   rw [hw] at h;injection h with h
   subst h;obtain ⟨q1,q2⟩:=q';have hlp:len p <= room - len x + len p:=by omega
   obtain ⟨i1,i2,i3⟩:=fD' hB hcx hN g p _ n q1 q2 hpF hlp (by unfold len at *; omega) hw;have hwl:=jm' (p:=q1) hx hp;have hwF:=(gV' (C:=fun _ _ _=>True) (qk B) hx i1 hp (by unfold len at *; omega)).1;exact ⟨hwF,by unfold len at *; simp only; omega,i3⟩
end
end
end Go.Proofs.YtpealcfjbcpoiaaGreat
