import Derived.Test.YtpealcfjbcpoiaaGreatMl21
set_option linter.unusedVariables false
set_option linter.unusedSimpArgs false
namespace Go.Proofs.YtpealcfjbcpoiaaGreat
open Go.Wx Cd Tm Lv
section
variable {x:Tr} {k:Int}
theorem rP' {d nb:Int} (h:x.n.op ≠ 13):mT upF x d nb = up d x:=nH' h d nb 0
theorem sG' {n:Nd} {f a:Tr} (h6:n.op = 6) (hf:f.n.op ≠ 13) (ha:a.n.op ≠ 13):up k (.mk n [f,a]) = .mk n [up k f,up k a]:=by
 unfold up;rw [cL' (by omega)];simp only [mK];rw [nH' hf _ _ 0,nH' ha _ _ 0];have h0:∀ j:Int,arC n 0 j = 0:=fun j=>by simp [arC,aJ',h6]
 rw [h0,h0,Int.add_zero]
theorem tW':∀ (L:Nat) (x:Tr),(row x).length <= L -> Ok .tm x -> headT (up k x) = up k (headT x) /\ argsT (up k x) = (argsT x).map (up k)
 | 0,x,hl,hx=>by
  have:=ag' x;omega
 | L + 1,.mk n ks,hl,hx=>by
  by_cases h6:n.op = 6
  ·obtain ⟨f,a,rfl,hf,ha⟩:=dx' hx h6
   have hlf:(row f).length <= L:=by
    simp only [row,rows,JV,JK] at hl;omega
   obtain ⟨i1,i2⟩:=tW' L f hlf hf;rw [sG' h6 hf.n13 ha.n13,bu' h6,bu' h6,bI' h6,bI' h6,i1,i2];simp
  ·have e:(up k (.mk n ks)).n.op ≠ 6:=by rw [bF']; exact h6
   cases hu:up k (.mk n ks) with
   | mk n' ks' =>
    rw [hu] at e;have e:n'.op ≠ 6:=e;rw [bv' e,bv' h6,bJ' e,bJ' h6,hu];simp
theorem aQ' (hx:Ok .tm x):headT (up k x) = up k (headT x):=(tW' _ x (KJ _) hx).1
theorem aV' (hx:Ok .tm x):argsT (up k x) = (argsT x).map (up k):=(tW' _ x (KJ _) hx).2
theorem gu':∀ (ys:List Tr) (x:Tr),x.n.op ≠ 13 -> (∀ y ∈ ys,y.n.op ≠ 13) -> up k (aj' x ys) = aj' (up k x) (ys.map (up k))
 | [],x,_,_=>rfl
 | y :: r,x,hx,hy=>by
  rw [aj',List.map_cons,aj',gu' r _ (by simp [appN,Tr.n]) (fun z hz=>hy z (by simp [hz])),sG' rfl hx (hy y (by simp))]
theorem lP' (hx:Ok .tm x) (h1:x.n.op ≠ 1):(kidsT (up k x)).length = (kidsT x).length /\ ∀ i:Nat,i < (kidsT x).length -> kidD (up k x) i = up (k + kb x.n i) (kidD x i):=by
 obtain ⟨n,ks⟩:=x;have h1:n.op ≠ 1:=h1;obtain ⟨hc,hok,hi⟩:=hx.kids;obtain ⟨hp,h3,h13⟩:=hx.tm;have e:up k (.mk n ks) = .mk n (mK upF ks n 0 0 k):=by unfold up; rw [cL' h1]
 rw [e]
 by_cases h2:n.op = 2
 ·simp [kidsT,h2]
 by_cases h12:n.op = 12
 ·have hkey:∀ (ks:List Tr) (j:Nat) (i:Int),okL cnt nx ks n .tm j -> eo' ks = true -> (∀ y ∈ ks,Ok .fn y) -> ((mK upF ks n 0 i k).flatMap (·.ks)).length = (ks.flatMap (·.ks)).length /\ ∀ t:Nat,t < (ks.flatMap (·.ks)).length -> ((mK upF ks n 0 i k).flatMap (·.ks)).getD t (varX 0) = up (k + if t % 2 = 1 then n.b else 0) ((ks.flatMap (·.ks)).getD t (varX 0)):=by
   intro ks
   induction ks with
   | nil=>intro j i _ _ _; exact ⟨rfl,fun t ht=>by simp at ht⟩
   | cons y r ih =>
    intro j i hok hi hy;obtain ⟨f,ty,bo,rfl,f13,_,hty,hbo⟩:=(hy y (by simp)).fn;obtain ⟨i1,i2⟩:=ih (j + 1) (i + 1) hok.2 (cG' hi).2 fun z hz=>hy z (by simp [hz]);have hm:mT upF (.mk f [ty,bo]) (k + arC n 0 i) n.b = .mk f [up k ty,up (k + n.b) bo]:=by
     rw [cL' (by omega),show k + arC n 0 i = k by simp [arC,aJ',h12]];simp only [mK];rw [rP' hty.n13,rP' hbo.n13,show k + arC f n.b 0 = k by simp [arC,f13],show k + arC f n.b (0 + 1) = k + n.b by simp [arC,f13]]
    have hks:∀ a b:Tr,(Tr.mk f [a,b]).ks = [a,b]:=fun _ _=>rfl;simp only [mK,List.flatMap_cons,hm,hks,JK,JV,JU];refine ⟨by omega,fun t ht=>?_⟩
    match t,ht with
    | 0,_=>simp
    | 1,_=>simp
    | t + 2,ht =>
     have:=i2 t (by omega);rw [show (t + 2) % 2 = t % 2 by omega]
     simpa using this
  have hfn:∀ y ∈ ks,Ok .fn y:=fun y hy=>by
   obtain ⟨j,hj⟩:=JH hy;have h1:=eA' ks 0 j y hok hj;rw [show nx Md.tm n (0 + j) = .fn by simp [nx,h12]] at h1;exact ⟨h1,dy' ks j y hi hj⟩
  obtain ⟨i1,i2⟩:=hkey ks 0 0 hok hi hfn;have ek:∀ l:List Tr,kidsT (.mk n l) = l.flatMap (·.ks):=fun l=>by simp [kidsT,h2,h12]
  unfold kidD;rw [ek,ek];refine ⟨i1,fun t ht=>?_⟩;rw [i2 t ht];simp [kb,h12,Tr.n]
 ·have ek:∀ l:List Tr,kidsT (.mk n l) = l:=fun l=>by simp [kidsT,h2,h12]
  unfold kidD;rw [ek,ek];refine ⟨kP' ks 0,fun t ht=>?_⟩;obtain ⟨y,hy,_⟩:=af' (l:=ks) (k:=t) ht;have hyo:=eA' ks 0 t y hok hy;rw [show nx Md.tm n (0 + t) = .tm by simp [nx,h2,h12]] at hyo;have hy13:y.n.op ≠ 13:=Ok.n13 ⟨hyo,dy' ks t y hi hy⟩;rw [List.getD_eq_getElem?_getD,List.getD_eq_getElem?_getD,sF',hy];simp only [Option.map_some,Option.getD_some,Tr.n];rw [rP' hy13]
  congr 2
  simp [arC,kb,h12,h13]
theorem dq' (hx:Ok .tm x) (h1:x.n.op ≠ 1) {i:Nat} (hi:i < (kidsT x).length) {b:Int} (hb:kb x.n i = b):kidD (up k x) i = up (k + b) (kidD x i):=by
 rw [<- hb]; exact (lP' hx h1).2 i hi
theorem aW' (hx:Ok .tm x) (h1:x.n.op ≠ 1) {i:Nat} (hi:i < (kidsT x).length) (hb:kb x.n i = 0):kidD (up k x) i = up k (kidD x i):=by
 have:=dq' (k:=k) hx h1 hi hb
 rwa [Int.add_zero] at this
theorem mY' {l l':List Tr} (h1:l.length = l'.length) (h:∀ i:Nat,i < l'.length -> l.getD i (varX 0) = l'.getD i (varX 0)):l = l':=by
 apply List.ext_getElem h1;intro i h2 h3;have:=h i h3
 simpa [List.getD_eq_getElem?_getD,h2,h3] using this
theorem gv' (hx:Ok .tm x) (h1:x.n.op ≠ 1) (h4:x.n.op ≠ 4 /\ x.n.op ≠ 5 /\ x.n.op ≠ 7 /\ x.n.op ≠ 12):kidsT (up k x) = (kidsT x).map (up k):=by
 obtain ⟨e1,e2⟩:=lP' (k:=k) hx h1;refine mY' (by simpa using e1) fun i hi=>?_;rw [List.length_map] at hi;have:=e2 i hi;have hk:kb x.n i = 0:=by simp [kb,aJ',h4]
 rw [hk,Int.add_zero] at this;unfold kidD at this;rw [this];obtain ⟨y,hy,_⟩:=af' (l:=kidsT x) (k:=i) hi;simp [List.getD_eq_getElem?_getD,hy]
theorem mZ' (hx:Ok .tm x) (h2:x.n.op = 2):dN' (up k x) = dN' x:=by
 obtain ⟨n,ks⟩:=x;have h2:n.op = 2:=h2;obtain ⟨hc,hok,hi⟩:=hx.kids;have e:up k (.mk n ks) = .mk n (mK upF ks n 0 0 k):=by unfold up; rw [cL' (by omega)]
 rw [e];have:∀ (ks:List Tr) (j:Nat) (i:Int),okL cnt nx ks n .tm j -> (mK upF ks n 0 i k).map (fun y=>(⟨y.n.a,y.n.b⟩:Atom)) = ks.map fun y=>⟨y.n.a,y.n.b⟩:=by
  intro ks
  induction ks with
  | nil=>intro j i _; rfl
  | cons y r ih =>
   intro j i hok;obtain ⟨m,l⟩:=y;obtain ⟨h3,h4⟩:=hok;have hm:cnt .am m = some l.length:=by
    have:=h3.1
    rwa [show nx Md.tm n j = .am by simp [nx,h2]] at this
   have h1:m.op ≠ 1:=by
    simp only [cnt] at hm;split at hm
    ·rename_i q; omega
    ·cases hm
   simp only [mK,List.map_cons];rw [ih (j + 1) (i + 1) h4,cL' h1]
   rfl
 exact this ks 0 0 hok
theorem vz' (hx:Ok .tm x) (h12:x.n.op = 12):(up k x).ks.map (·.n) = x.ks.map (·.n):=by
 obtain ⟨n,ks⟩:=x;have h12:n.op = 12:=h12;obtain ⟨hc,hok,hi⟩:=hx.kids;rw [tV' (by simp only [Tr.n]; omega)];simp only [Tr.ks,Tr.n];have:∀ (ks:List Tr) (j:Nat) (i:Int),okL cnt nx ks n .tm j -> (mK upF ks n 0 i k).map (·.n) = ks.map (·.n):=by
  intro ks
  induction ks with
  | nil=>intro j i _; rfl
  | cons y r ih =>
   intro j i hok;obtain ⟨m,l⟩:=y;obtain ⟨h3,h4⟩:=hok;have hm:cnt .fn m = some l.length:=by
    have:=h3.1
    rwa [show nx Md.tm n j = .fn by simp [nx,h12]] at this
   have h1:m.op ≠ 1:=by
    have:=(fO' hm).2.1;omega
   simp only [mK,List.map_cons];rw [ih (j + 1) (i + 1) h4,cL' h1]
   rfl
 exact this ks 0 0 hok
theorem dr' (hx:Ok .tm x) (h12:x.n.op = 12):placesM (up k x) = placesM x /\ aD' (up k x) = aD' x:=by
 have e:=vz' (k:=k) hx h12;have en:(up k x).n = x.n:=gi' (by omega);refine ⟨?_,?_⟩
 ·unfold placesM
  have:=congrArg (List.map fun n:Nd=>n.a) e
  simpa [List.map_map,Function.comp_def] using this
 ·unfold aD'
  rw [en];have:=congrArg (fun l:List Nd=>(l[x.n.a.toNat]?).map fun n=>n.a) e;simp only [JX,Option.map_map,Function.comp_def] at this;rw [this]
theorem pU' {op:Int} (ho:op = 4 \/ op = 5):∀ (ys:List Tr) (x:Tr) (k:Int),x.n.op ≠ 13 -> (∀ y ∈ ys,y.n.op ≠ 13) -> up k (bW' op ys x) = bW' op (ys.mapIdx fun i y=>up (k + i) y) (up (k + ys.length) x)
 | [],x,k,_,_=>by simp [bW']
 | d :: r,x,k,hx,hy=>by
  have hr:(bW' op r x).n.op ≠ 13:=by
   cases r with
   | nil=>exact hx
   | cons z r=>simp only [bW',Tr.n]; omega
  have ih:=pU' ho r x (k + 1) hx fun y h=>hy y (by simp [h]);have e:up k (.mk ⟨op,0,0⟩ [d,bW' op r x]) = .mk ⟨op,0,0⟩ [up k d,up (k + 1) (bW' op r x)]:=by
   unfold up;rw [cL' (by simp only; omega)];simp only [mK];rw [nH' (hy d (by simp)) _ _ 0,nH' hr _ _ 0];have a0:arC ⟨op,0,0⟩ 0 0 = 0:=by rcases ho with h | h <;> simp [arC,aJ',h]
   have a1:arC ⟨op,0,0⟩ 0 (0 + 1) = 1:=by rcases ho with h | h <;> simp [arC,aJ',h]
   rw [a0,a1,Int.add_zero]
  simp only [bW',List.mapIdx_cons,JV];rw [e,ih]
  congr 3
  ·simp
  ·congr 1
   ·congr 1
    funext i y
    congr 1
    omega
   ·congr 1
    omega
end
def pV' (b:Int) (d:Int) (n:Nd):Tr:=.mk { n with a:=if d <= n.a then n.a + b else n.a } []
theorem jH' {x:Tr} (hx:Ok .tm x) (hs:dl' x) {b:Int} (hb:b <= 500000):aq' x b 0 = mT (pV' b) x 0 0:=by
 have h1:=bj' hx hs (by_:=b) (fr:=0) hb;unfold gc' at h1;rw [rO' (h:=cH' b 0) (f:=pV' b) x .tm 0 0 hx.1 fun q hq n h1 hp hn=>by
   have hsq:=hs q hq;unfold cH' pV'
   by_cases hc:q.2 <= n.a
   ·rw [if_pos (by omega),if_neg (by omega),if_pos hc]
   ·rw [if_neg (by omega),if_neg hc]] at h1
 exact (JB h1).symm
theorem tX' {x:Tr} (hx:Ok .tm x) (hs:dl' x) {b k:Int} (h0:0 <= b) (hb:b <= 500000) (hk:0 <= k):up (k + b) (aq' x b 0) = mT (pV' b) (up k x) 0 0:=by
 have e1:=eE' (f:=pV' b) (g:=upF) (f3:=fun d n=>.mk { n with a:=if d + k <= n.a then n.a + b + 1 else if d <= n.a then n.a + b else n.a } []) (e:=k + b) x .tm 0 0 hx.1 fun q hq n h1 hp hn nb=>by
  unfold pV';rw [bU' (by simpa using h1)];unfold upF upN;simp only
  congr 2
  repeat' split
  all_goals omega
 have e2:=kO' (f:=upF) (f3:=fun d n=>upF (d + k) n) (e:=k) x .tm 0 0 hx.1 fun q hq n h1 hp hn=>rfl;have e3:=eE' (f:=fun d n=>upF (d + k) n) (g:=pV' b) (f3:=fun d n=>.mk { n with a:=if d + k <= n.a then n.a + b + 1 else if d <= n.a then n.a + b else n.a } []) (e:=0) x .tm 0 0 hx.1 fun q hq n h1 hp hn nb=>by
  unfold upF upN;rw [bU' (by simpa using h1)];unfold pV';simp only
  congr 2
  repeat' split
  all_goals omega
 rw [Int.zero_add] at e1 e2;rw [Int.add_zero] at e3;rw [jH' hx hs hb];unfold up;rw [e1,e2,e3]
theorem cA' {Q:Nd -> Prop} (hQ:Qk Q) {N:Int} {x:Tr} (hx:Ft Q N x) (hN:N <= 90000) {b k:Int} (h0:0 <= b) (hb:b <= 500000) (hk:0 <= k):up (k + b) (aq' x b 0) = aq' (up k x) b 0:=by
 have hu:=hx.up hQ (k:=k) (by omega);rw [tX' hx.ok (hx.small (by omega)) h0 hb hk,jH' hu.ok (hu.small (by omega)) hb]
theorem kR' {Q:Nd -> Prop} (hQ:Qk Q) {N:Int} {x:Tr} (hx:Ft Q N x) (hN:N <= 90000) {b k:Int} (hk:0 <= k) (hkb:k <= b) (hb:b <= 400000):up k (aq' x b 0) = aq' x (b + 1) 0:=by
 have e1:=eE' (f:=pV' b) (g:=upF) (f3:=pV' (b + 1)) (e:=k) x .tm 0 0 hx.ok.1 fun q hq n h1 hp hn nb=>by
  unfold pV';rw [bU' (by simpa using h1)];unfold upF upN;simp only
  congr 2
  repeat' split
  all_goals omega
 rw [Int.zero_add] at e1;rw [jH' hx.ok (hx.small (by omega)) (by omega),jH' hx.ok (hx.small (by omega)) (by omega)];exact e1
def tY' (u:Tr) (v:Int) (d:Int) (n:Nd):Tr:=if n.a = v + d then ep' u (v + d) else if v + d < n.a /\ 0 < n.a then .mk { n with a:=n.a - 1 } [] else .mk n []
theorem na' {x u:Tr} (hx:Ok .tm x) (v:Int):bf' x u v = mT (tY' u v) x 0 0:=by
 have h1:=bB' (u:=u) hx v;rw [rO' (h:=aY' u v) (f:=tY' u v) x .tm 0 0 hx.1 fun q hq n h1 hp hn=>by
   unfold aY' tY';split
   ·rfl
   ·split <;> rfl] at h1
 exact (JB h1).symm
theorem rQ' {Q:Nd -> Prop} (hQ:Qk Q) {N:Int} {x u:Tr} {v k:Int} (hx:Ft Q (N + 1 + v) x) (hu:Ft Q N u) (hN:N <= 80000) (hv0:0 <= v) (hv:v <= 1000) (hk:0 <= k):up (k + v) (bf' x u v) = bf' (up (k + 1 + v) x) (up k u) v:=by
 have hxu:=hx.up hQ (k:=k + 1 + v) (by omega);have huu:=hu.up hQ (k:=k) (by omega);have hsm:=hx.sm (by omega);have e2:=kO' (f:=upF) (f3:=fun d n=>upF (d + (k + 1 + v)) n) (e:=k + 1 + v) x .tm 0 0 hx.ok.1 fun q hq n h1 hp hn=>rfl;rw [Int.zero_add] at e2;have hY:∀ (d:Int),0 <= d -> d <= 20000 -> up (k + v + d) (ep' u (v + d)) = ep' (up k u) (v + d):=fun d h0 h1=>by
  unfold ep';rw [if_pos (by omega),if_pos (by omega),show k + v + d = k + (v + d) by omega];exact cA' hQ hu (by omega) (by omega) (by omega) hk
 have hY13:∀ (d:Int),(ep' u (v + d)).n.op ≠ 13:=fun d=>(iZ' hu.ok (hu.small (by omega)) (v + d)).n13;have e1:=eE' (f:=tY' u v) (g:=upF) (f3:=fun d n=>if n.a = v + d then ep' (up k u) (v + d) else if v + d < n.a /\ 0 < n.a then .mk { n with a:=if d + (k + v) <= n.a - 1 then n.a else n.a - 1 } [] else .mk n []) (e:=k + v) x .tm 0 0 hx.ok.1 fun q hq n h1 hp hn nb=>by
  have hsq:=hsm q hq;unfold tY';split
  ·rw [rP' (hY13 q.2),show q.2 + (k + v) = k + v + q.2 by omega]
   exact hY q.2 (by omega) (by omega)
  split
  ·rw [bU' (by simpa using h1)]
   unfold upF upN;simp only
   congr 2
   repeat' split
   all_goals omega
  ·rw [bU' h1]
   unfold upF upN;rw [if_neg (by omega)]
 have e3:=eE' (f:=fun d n=>upF (d + (k + 1 + v)) n) (g:=tY' (up k u) v) (f3:=fun d n=>if n.a = v + d then ep' (up k u) (v + d) else if v + d < n.a /\ 0 < n.a then .mk { n with a:=if d + (k + v) <= n.a - 1 then n.a else n.a - 1 } [] else .mk n []) (e:=0) x .tm 0 0 hx.ok.1 fun q hq n h1 hp hn nb=>by
  have hsq:=hsm q hq;unfold upF upN;rw [bU' (by simpa using h1)];unfold tY';simp only [Int.add_zero]
  by_cases c1:q.2 + (k + 1 + v) <= n.a
  ·simp only [if_pos c1]
   rw [if_neg (by omega),if_pos (by omega),if_neg (by omega),if_pos (by omega),if_pos (by omega)]
   congr 2
   omega
  ·simp only [if_neg c1]
   split
   ·rfl
   split
   ·rw [if_neg (by omega)]
   ·rfl
 rw [Int.zero_add] at e1;rw [Int.add_zero] at e3;rw [na' hx.ok,na' hxu.ok];show mT upF _ (k + v) 0 = _;rw [e1];unfold up at e3 ⊢;rw [e2,e3]
theorem vA' {Q:Nd -> Prop} {N:Int} {x u:Tr} {v k:Int} (hx:Ft Q (N + 1 + v) x) (hu:Ft Q N u) (hk:0 <= k):mm' (up (k + 1 + v) x) (up k u) v = mm' x u v:=by
 have e:∀ (l:List (Int × Int)) (s:Int × Int),(l.map fun q=>(if q.2 + (k + 1 + v) <= q.1 then q.1 + 1 else q.1,q.2)).foldl (fun s q=>if q.1 - q.2 = v then (s.1 + 1,max s.2 q.2) else s) s = l.foldl (fun s q=>if q.1 - q.2 = v then (s.1 + 1,max s.2 q.2) else s) s:=fun l=>by
  induction l with
  | nil=>intro s; rfl
  | cons q l ih =>
   intro s;simp only [List.map_cons,List.foldl_cons];rw [ih]
   congr 1
   by_cases c:q.2 + (k + 1 + v) <= q.1
   ·simp only [if_pos c]
    rw [if_neg (by omega),if_neg (by omega)]
   ·simp only [if_neg c]
 unfold mm' io';rw [iJ' hx.ok,iJ' hu.ok,pT' hx.ok,e]
def hZ' {α β:Type} (f:α -> β) (m:Except Int α):Except Int β:=match m with
 | .error e=>.error e
 | .ok x=>.ok (f x)
theorem dt' {Q:Nd -> Prop} (hQ:Qk Q) {N:Int} {x u:Tr} {v k:Int} (hx:Ft Q (N + 1 + v) x) (hu:Ft Q N u) (hN:N <= 80000) (hv0:0 <= v) (hv:v <= 1000) (hk:0 <= k):ay' (up (k + 1 + v) x) (up k u) v = hZ' (up (k + v)) (ay' x u v):=by
 unfold ay';rw [vA' hx hu hk];split
 ·rfl
 ·simp only [hZ']
  rw [rQ' hQ hx hu hN hv0 hv hk]
theorem cN' {α β γ:Type} {m:Except Int α} {g:α -> Except Int β} {f:α -> γ} {h:β -> Tr} {k:γ -> Except Int Tr} (H:∀ x,m = .ok x -> k (f x) = hZ' h (g x)):(hZ' f m).bind k = hZ' h (m.bind g):=by
 cases m with
 | error e=>rfl
 | ok x=>exact H x rfl
theorem dD' {x:Tr} {ys:List Tr} {k:Int} (hx:Ok .tm x) (hy:∀ y ∈ ys,Ok .tm y):aH' (up k x) (ys.map (up k)) = hZ' (up k) (aH' x ys):=by
 have e:=gu' (k:=k) ys x hx.n13 fun y h=>(hy y h).n13;have hl:(row (aj' (up k x) (ys.map (up k)))).length = (row (aj' x ys)).length:=by rw [<- e,iJ' (gn' ys x hx hy)]
 unfold aH';rw [hl];split
 ·rfl
 ·simp only [hZ']
  rw [e]
theorem pW' {α:Type} {m:Except Int α} {f:α -> α} (h:∀ x,m = .ok x -> f x = x):hZ' f m = m:=by
 cases m with
 | error e=>rfl
 | ok x=>simp only [hZ']; rw [h x rfl]
structure Ins (k:Nat) (c c':Ctx):Prop where
 len:c'.length = c.length + 1
 le:k <= c.length
 lo:∀ i:Nat,i < c.length - k -> c'[i]? = c[i]?
 hi:∀ (i j:Nat) q,c.length - k + j = i -> c[i]? = some q -> c'[i + 1]? = some (up (j:Int) q.1,q.2.map (up (j:Int)))
theorem Ins.app {k:Nat} {c c' m m':Ctx} (h:Ins k c c') (hl:m'.length = m.length) (hm:∀ (i:Nat) q,m[i]? = some q -> m'[i]? = some (up ((k + i:Nat):Int) q.1,q.2.map (up ((k + i:Nat):Int)))):Ins (k + m.length) (c ++ m) (c' ++ m'):=by
 have h1:=h.len;have h2:=h.le;refine ⟨by simp; omega,by simp; omega,fun i hi=>?_,fun i j q hi hq=>?_⟩
 ·rw [JK] at hi
  rw [List.getElem?_append_left (by omega),List.getElem?_append_left (by omega)];exact h.lo i (by omega)
 ·rw [JK] at hi
  by_cases hc:i < c.length
  ·rw [List.getElem?_append_left hc] at hq
   rw [List.getElem?_append_left (by omega)];exact h.hi i j q (by omega) hq
  ·rw [List.getElem?_append_right (by omega)] at hq
   rw [List.getElem?_append_right (by omega),show i + 1 - c'.length = i - c.length by omega,hm _ q hq,show k + (i - c.length) = j by omega]
theorem Ins.snoc {k:Nat} {c c':Ctx} (h:Ins k c c') (t:Tr) (v:Option Tr):Ins (k + 1) (c ++ [(t,v)]) (c' ++ [(up (k:Int) t,v.map (up (k:Int)))]):=h.app (m:=[(t,v)]) rfl fun i q hq=>by
 have hi:=ai' hq;obtain rfl:i = 0:=by simp at hi; omega
 simp only [List.getElem?_cons_zero,Option.some.injEq] at hq;subst hq
 rfl
theorem Ins.snocN {k:Nat} {c c':Ctx} (h:Ins k c c') (t:Tr):Ins (k + 1) (c ++ [(t,none)]) (c' ++ [(up (k:Int) t,none)]):=h.snoc t none
section
variable {B:BoT} {c c':Ctx} {k:Nat} {x:Tr}
theorem Ins.at (h:Ins k c c') (hcx:CxOk B c) (hN:c.length <= 80000) {n:Nd} (h0:0 <= n.a) (h1:n.a < c.length) :
  aq' (ge' c' (upN k n).a).1 ((upN k n).a + 1) 0 = up k (aq' (ge' c n.a).1 (n.a + 1) 0) /\ (ge' c' (upN k n).a).2.isSome = (ge' c n.a).2.isSome /\
   ∀ v,(ge' c n.a).2 = some v -> ∃ v',(ge' c' (upN k n).a).2 = some v' /\ aq' v' ((upN k n).a + 1) 0 = up k (aq' v (n.a + 1) 0):=by
 have hlen:=h.len;have hle:=h.le;have hg:=cf' h0 h1;obtain ⟨f1,f2⟩:=hcx _ _ hg
 by_cases hc:(k:Int) <= n.a
 ·have ea:(upN k n).a = n.a + 1:=by unfold upN; simp only; rw [if_pos hc]
  have hlo:=h.lo (c.length - 1 - n.a.toNat) (by omega);have e:ge' c' (n.a + 1) = ge' c n.a:=by
   have:=cf' (c:=c') (a:=n.a + 1) (by omega) (by omega);rw [show c'.length - 1 - (n.a + 1).toNat = c.length - 1 - n.a.toNat by omega,hlo,hg] at this;exact (JB this).symm
  rw [ea,e];refine ⟨(kR' (qk B) f1 (by omega) (by omega) (by omega) (by omega)).symm,rfl,fun v hv=>⟨v,hv,(kR' (qk B) (f2 v hv) (by omega) (by omega) (by omega) (by omega)).symm⟩⟩
 ·have ea:(upN k n).a = n.a:=by unfold upN; simp only; rw [if_neg hc]
  have hhi:=h.hi (c.length - 1 - n.a.toNat) (k - 1 - n.a.toNat) _ (by omega) hg;have e:ge' c' n.a = (up ((k - 1 - n.a.toNat:Nat):Int) (ge' c n.a).1,(ge' c n.a).2.map (up ((k - 1 - n.a.toNat:Nat):Int))):=by
   have:=cf' (c:=c') (a:=n.a) (by omega) (by omega);rw [show c'.length - 1 - n.a.toNat = c.length - 1 - n.a.toNat + 1 by omega,hhi] at this;exact (JB this).symm
  have hj:((k - 1 - n.a.toNat:Nat):Int) + (n.a + 1) = (k:Int):=by omega
  rw [ea,e];refine ⟨?_,by simp,fun v hv=>⟨up ((k - 1 - n.a.toNat:Nat):Int) v,by rw [hv]; rfl,?_⟩⟩
  ·rw [<- cA' (qk B) f1 (by omega) (by omega) (by omega) (by omega),hj]
  ·rw [<- cA' (qk B) (f2 v hv) (by omega) (by omega) (by omega) (by omega),hj]
theorem tZ' {k:Int} {n:Nd} {s:Tr} (hs:Ok .tm s):gf' B n (up k s) = gf' B n s:=by
 unfold gf';simp only;rw [aQ' hs,aV' hs,List.length_map,bF']
 by_cases h:(headT s).n.op = 10
 ·rw [gi' (x:=headT s) (by omega)]
 ·simp [h]
theorem cB' (l:List Tr) {p:Nat} (h:p < l.length) (f:Tr -> Tr):(l.map f).getD p (varX 0) = f (l.getD p (varX 0)):=by
 obtain ⟨y,hy,_⟩:=af' (l:=l) (k:=p) h;simp [List.getD_eq_getElem?_getD,hy]
theorem rR' (h:Ins k c c') (hcx:CxOk B c) (hN:c.length <= 80000) (hx:Ft (QB B) (c.length:Int) x):bT' B c' (up k x) = bT' B c x:=by
 have hh:=hx.head;unfold bT';simp only;rw [aQ' hx.ok,aV' hx.ok,bF',List.length_map];split
 ·rfl
 split
 ·rfl
 split
 ·rename_i g
  cases hd:headT x with
  | mk n ks =>
   rw [hd] at hh g;have g:n.op = 1:=g;obtain ⟨a0,a1,_⟩:=hh.var_lt g;have e:(up (k:Int) (.mk n ks)).n = upN k n:=by unfold up; rw [bU' g]; rfl
   rw [e];exact (h.at hcx hN a0 a1).2.1
 split
 ·rename_i g
  obtain ⟨hk,hkl,_,_⟩:=aA' hh.ok g;rw [gi' (by omega),aW' hh.ok (by omega) (i:=1) (by rw [hk]; omega) (by simp [kb,aJ',g])];exact tZ' (hh.kidD (k:=1) (by rw [hk]; omega)).2.ok
 split
 ·rename_i g
  rw [(dr' hh.ok g).2];obtain ⟨_,_,_,p0,_⟩:=cW' hh.ok g
  by_cases hp:aD' (headT x) < (argsT x).length
  ·rw [cB' _ (by omega),aQ',bF']
   exact (hx.args _ (bx' (by omega))).ok
  ·simp [hp]
 ·rfl
theorem rS' {k:Int} (h12:x.n.op = 12) (i:Int):fixAt (up k x) i = up k (fixAt x i):=by
 unfold fixAt;rw [gi' (by omega),tV' (by omega)];unfold up;rw [cL' (by simp only; omega)];exact congrArg _ (mK_n (f:=upF) (n:=x.n) (n':={ x.n with a:=i }) rfl rfl x.ks 0)
theorem hP' (hx:Ft (QB B) (c.length:Int) x) (h12:x.n.op = 12) (hN:c.length <= 70000):∀ (i:Nat) (b:Tr),i <= x.n.b.toNat -> Ft (QB B) ((c.length + i:Nat):Int) b -> bp' (up k x) i (up ((k + i:Nat):Int) b) = hZ' (up k) (bp' x i b)
 | 0,b,_,hb=>rfl
 | i + 1,b,hi,hb=>by
  have hl:=aG' hx.ok h12;have hf:=hx.fixAt (qk B) h12 (i:=(i:Int)) (by omega) (by omega);have hfl:=hf.lift (qk B) (b:=(i:Int)) (by omega) (by omega) (by omega);have e1:aq' (fixAt (up k x) i) i 0 = up ((k + i:Nat):Int) (aq' (fixAt x i) i 0):=by
   rw [rS' h12,<- cA' (qk B) hf (by omega) (b:=(i:Int)) (k:=(k:Int)) (by omega) (by omega) (by omega)]
   rfl
  have e2:=dt' (qk B) (N:=(c.length:Int) + i) (v:=0) (k:=((k + i:Nat):Int)) (hb.mono (by omega)) hfl (by omega) (by omega) (by omega) (by omega);rw [Int.add_zero,Int.add_zero] at e2;simp only [bp'];rw [e1,show ((k + (i + 1):Nat):Int) = ((k + i:Nat):Int) + 1 by omega,e2];refine cN' fun z hz=>?_;have hzf:=az' (qk B) (N:=(c.length:Int) + i) (v:=0) (hb.mono (by omega)) hfl (by omega) (by omega) (by omega) (by omega) hz;exact hP' hx h12 hN i z (by omega) (hzf.mono (by omega))
theorem pX' (hx:Ft (QB B) (c.length:Int) x) (h12:x.n.op = 12) (hN:c.length <= 70000):dg' (up k x) = hZ' (up k) (dg' x):=by
 have hl:=aG' hx.ok h12;have hk:=bg' hx.ok h12;have hkb:kb x.n (2 * x.n.a.toNat + 1) = x.n.b:=by
  unfold kb;rw [if_pos h12,if_pos (by omega)]
 have hb:=hx.kidN (2 * x.n.a.toNat + 1) (by omega) hkb;unfold dg';rw [gi' (by omega),dq' hx.ok (by omega) (by omega) hkb];have:=hP' (k:=k) hx h12 hN x.n.b.toNat _ (KJ _) (hb.mono (by omega))
 rwa [show ((k + x.n.b.toNat:Nat):Int) = (k:Int) + x.n.b by omega] at this
theorem ua' {Q:Nd -> Prop} {N:Int} (h:Ft Q N x):Q x.n:=by
 obtain ⟨n,ks⟩:=x;exact h.node
theorem sH' {l:List Tr} {Q:Nd -> Prop} {N:Int} (h:∀ y ∈ l,Ft Q N y):∀ y ∈ l,Ok .tm y:=fun y hy=>(h y hy).ok
theorem vB' (hB:GoodB B) (h:Ins k c c') (hcx:CxOk B c) (hN:c.length <= 70000) (hx:Ft (QB B) (c.length:Int) x) (hr:bT' B c x = true):kp' B c' (up k x) = hZ' (up k) (kp' B c x):=by
 have hQ:=qk B;have hh:=hx.head;have hao:=sH' hx.args;unfold bT' at hr;unfold kp';simp only at hr ⊢;rw [aQ' hx.ok,aV' hx.ok,bF'];split
 ·rename_i g
  rw [if_pos g] at hr;have hr:=of_decide_eq_true hr;obtain ⟨hk,hkl⟩:=bn' hh.ok (by omega) (by omega);have hkc:ar' (headT x).n = 2:=by simp [ar',g]
  have hb1:kb (headT x).n 1 = 1:=by simp [kb,aJ',g]
  have hb:=hh.kidN 1 (by rw [hk]; omega) hb1;have ha:=hx.args _ (bx' (l:=argsT x) (i:=0) (d:=varX 0) hr);rw [dq' hh.ok (by omega) (i:=1) (by rw [hk]; omega) hb1,cB' _ hr];have e2:=dt' (qk B) (N:=(c.length:Int)) (v:=0) (k:=(k:Int)) (hb.mono (by omega)) ha (by omega) (by omega) (by omega) (by omega);rw [Int.add_zero,Int.add_zero] at e2;rw [e2];refine cN' fun z hz=>?_;have hzf:=az' (qk B) (N:=(c.length:Int)) (v:=0) (hb.mono (by omega)) ha (by omega) (by omega) (by omega) (by omega) hz;rw [<- List.map_drop];exact dD' hzf.ok fun y hy=>hao y (List.mem_of_mem_drop hy)
 rename_i g;rw [if_neg g] at hr;split
 ·rename_i g2
  obtain ⟨hk,hkl⟩:=bn' hh.ok (by omega) (by omega);have hkc:ar' (headT x).n = 3:=by simp [ar',g2]
  have hb1:kb (headT x).n 2 = 1:=by simp [kb,aJ',g2]
  have hb0:kb (headT x).n 1 = 0:=by simp [kb,aJ',g2]
  have hb:=hh.kidN 2 (by rw [hk]; omega) hb1;have hv:=hh.kidN 1 (by rw [hk]; omega) hb0;rw [dq' hh.ok (by omega) (i:=2) (by rw [hk]; omega) hb1,aW' hh.ok (by omega) (i:=1) (by rw [hk]; omega) hb0];have e2:=dt' (qk B) (N:=(c.length:Int)) (v:=0) (k:=(k:Int)) (hb.mono (by omega)) (hv.mono (by omega)) (by omega) (by omega) (by omega) (by omega);rw [Int.add_zero,Int.add_zero] at e2;rw [e2];refine cN' fun z hz=>?_;have hzf:=az' (qk B) (N:=(c.length:Int)) (v:=0) (hb.mono (by omega)) (hv.mono (by omega)) (by omega) (by omega) (by omega) (by omega) hz;exact dD' hzf.ok hao
 rename_i g2;split
 ·rename_i g3
  rw [if_neg (by omega),if_pos g3] at hr;cases hd:headT x with
  | mk n ks =>
   rw [hd] at hr hh g3;have g3:n.op = 1:=g3;have hr:(ge' c n.a).2.isSome = true:=hr;obtain ⟨a0,a1,_⟩:=hh.var_lt g3;obtain ⟨v,hv⟩:=Option.isSome_iff_exists.1 hr;have e:(up (k:Int) (.mk n ks)).n = upN k n:=by unfold up; rw [bU' g3]; rfl
   obtain ⟨_,_,h3⟩:=h.at hcx (by omega) a0 a1;obtain ⟨v',hv',hl⟩:=h3 v hv;have hvF:=(hcx _ _ (cf' a0 a1)).2 v hv;show aH' (aq' ((ge' c' (up (k:Int) (.mk n ks)).n.a).2.getD (varX 0)) ((up (k:Int) (.mk n ks)).n.a + 1) 0) _ = hZ' _ (aH' (aq' ((ge' c n.a).2.getD (varX 0)) (n.a + 1) 0) _);rw [hv,e,hv',Option.getD_some,Option.getD_some,hl];exact dD' (hvF.lift hQ (by omega) (b:=n.a + 1) (by omega) (by omega)).ok hao
 rename_i g3;split
 ·rename_i g4
  obtain ⟨i,ex,ty,bo,e1,hi,e2,hD⟩:=hB.dfn (ua' hh) g4;rw [gi' (by omega),e2,hD.body,cJ' hD.fb.ok];have:=dD' (k:=(k:Int)) (x:=bo) hD.fb.ok hao
  rwa [cM' hD.fb (by omega)] at this
 rename_i g4;rw [if_neg (by omega),if_neg g3] at hr;split
 ·rename_i g5
  rw [if_pos g5] at hr;obtain ⟨hk,hkl,hb0,hb1⟩:=aA' hh.ok g5;have hk1:kb (headT x).n 1 = 0:=by simp [kb,aJ',g5]
  have hs:=hh.kidN 1 (by rw [hk]; omega) hk1;obtain ⟨f1,f2,f3,f4,f5⟩:=lz' hB hs hr;have hk2:kb (headT x).n (2 + (headT (kidD (headT x) 1)).n.b.toNat) = 0:=by simp [kb,aJ',g5]
  have hbr:=hh.kidN (2 + (headT (kidD (headT x) 1)).n.b.toNat) (by rw [hk]; omega) hk2;rw [gi' (by omega),aW' hh.ok (by omega) (i:=1) (by rw [hk]; omega) hk1,aQ' hs.ok,gi' (x:=headT (kidD (headT x) 1)) (by omega),aW' hh.ok (by omega) (by rw [hk]; omega) hk2,aV' hs.ok,<- List.map_drop,<- List.map_append];refine dD' hbr.ok fun y hy=>?_;rcases List.mem_append.1 hy with hy | hy
  ·exact (hs.args y (List.mem_of_mem_drop hy)).ok
  ·exact hao y hy
 ·rename_i g5
  rw [if_neg g5] at hr;split at hr
  ·rename_i g6
   rw [pX' hh g6 hN];exact cN' fun u hu=>dD' (gU' hQ hh g6 (by omega) (by omega) hu).ok hao
  ·cases hr
def qr' {α β:Type} (f:α -> β) (m:Except Int (α × Nat)):Except Int (β × Nat):=match m with
 | .error e=>.error e
 | .ok q=>.ok (f q.1,q.2)
theorem ub' (hx:Ft (QB B) (c.length:Int) x):df' (up k x) = (df' x).map (up k):=by
 have hh:=hx.head;unfold df';rw [aQ' hx.ok,bF'];split
 ·rename_i g
  obtain ⟨hk,hkl,_,_⟩:=aA' hh.ok g;rw [aW' hh.ok (by omega) (i:=1) (by rw [hk]; omega) (by simp [kb,aJ',g])]
  rfl
 split
 ·rename_i g
  obtain ⟨_,_,_,p0,_⟩:=cW' hh.ok g;rw [(dr' hh.ok g).2,aV' hx.ok,List.length_map];split
  ·rename_i hp
   unfold nr';rw [aV' hx.ok,cB' _ (by omega)]
   rfl
  ·rfl
 ·rfl
theorem sI' {n:Nd} {nb d:Int} {p:Tr} {f:Int -> Nd -> Tr}:∀ (ks:List Tr) (k:Int) (i:Nat),mK f (ks.set i p) n nb k d = (mK f ks n nb k d).set i (mT f p (d + arC n nb (k + i)) n.b)
 | [],k,i=>by simp [mK]
 | x :: r,k,0=>by simp [mK]
 | x :: r,k,i + 1=>by
  simp only [mK,List.set_cons_succ];rw [sI' r (k + 1) i,show k + 1 + (i:Int) = k + ((i + 1:Nat):Int) by omega]
theorem uc' (hx:Ft (QB B) (c.length:Int) x) {p y:Tr} (hp:Ok .tm p) (hy:df' x = some y):dB' (up k x) (up k p) = up k (dB' x p):=by
 have hh:=hx.head;have hao:=sH' hx.args;unfold df' at hy;unfold dB';rw [aQ' hx.ok,bF',aV' hx.ok];split
 ·rename_i g
  rw [gi' (by omega),tV' (by omega)];have e:up (k:Int) (.mk (headT x).n ((headT x).ks.set 1 p)) = .mk (headT x).n ((mK upF (headT x).ks (headT x).n 0 0 k).set 1 (up k p)):=by
   unfold up;rw [cL' (show (headT x).n.op ≠ 1 by omega),sI',nH' hp.n13 _ _ 0]
   congr 3
   simp [arC,aJ',g]
  have h13:(Tr.mk (headT x).n ((headT x).ks.set 1 p)).n.op ≠ 13:=by
   show (headT x).n.op ≠ 13;omega
  rw [gu' _ _ h13 fun y hy=>(hao y hy).n13,e]
 ·rename_i g
  rw [if_neg g] at hy;split at hy
  ·rename_i g2
   rw [(dr' hh.ok g2).2,gu' _ _ hh.ok.n13 fun y hy=>?_,List.map_set];rcases List.mem_or_eq_of_mem_set hy with hy | rfl
   ·exact (hao y hy).n13
   ·exact hp.n13
  ·cases hy
theorem lQ' (hB:GoodB B) (h:Ins k c c') (hcx:CxOk B c) (hN:c.length <= 70000):∀ (g:Nat) (x:Tr) (room:Int) (n:Nat),Ft (QB B) (c.length:Int) x -> len x <= room -> room <= 4096 -> bb' B c' g (up k x) room n = qr' (up k) (bb' B c g x room n)
 | 0,x,room,n,_,_,_=>rfl
 | g + 1,x,room,n,hx,hl,hr=>by
  have hlen:∀ {y:Tr},Ok .tm y -> len (up (k:Int) y) = len y:=fun hy=>by unfold len; rw [iJ' hy]
  have pre:kY' (bb' B c' g) (up k x) room n = qr' (up k) (kY' (bb' B c g) x room n) /\ ∀ q,kY' (bb' B c g) x room n = .ok q -> Ft (QB B) (c.length:Int) q.1 /\ len q.1 <= room:=by
   unfold kY';rw [ub' hx];cases hp:df' x with
   | none=>exact ⟨rfl,fun q hq=>by injection hq with hq; subst hq; exact ⟨hx,hl⟩⟩
   | some p =>
    simp only [Option.map_some];obtain ⟨hpF,hpl⟩:=lw' hx hp;have hroom:len p <= room - len x + len p:=by omega
    rw [hlen hx.ok,hlen hpF.ok,lQ' hB h hcx hN g p _ n hpF hroom (by unfold len at *; omega)];cases hw:bb' B c g p (room - len x + len p) n with
    | error e=>exact ⟨rfl,fun q hq=>by cases hq⟩
    | ok q =>
     obtain ⟨q1,q2⟩:=q;obtain ⟨i1,i2,_⟩:=fD' hB hcx (by omega) g p _ n q1 q2 hpF hroom (by unfold len at *; omega) hw;have hwl:=jm' (p:=q1) hx hp;have hwF:=(gV' (C:=fun _ _ _=>True) (qk B) hx i1 hp (by unfold len at *; omega)).1;refine ⟨?_,fun q hq=>by
      injection hq with hq
      subst hq;exact ⟨hwF,by unfold len at *; simp only; omega⟩⟩
     simp only [qr'];rw [uc' hx i1.ok hp]
  simp only [bb'];obtain ⟨p1,p2⟩:=pre;rw [p1];cases hp:kY' (bb' B c g) x room n with
  | error e=>rfl
  | ok q =>
   obtain ⟨i1,i2⟩:=p2 q hp;simp only [qr'];unfold gg';simp only;rw [rR' h hcx (by omega) i1];split
   ·rename_i hrd
    split
    ·rfl
    rw [vB' hB h hcx hN i1 hrd];cases ho:kp' B c q.1 with
    | error e=>rfl
    | ok y =>
     have hy:=pb' hB hcx (by omega) i1 hrd ho;simp only [hZ'];rw [hlen hy.ok];split
     ·rfl
     ·exact lQ' hB h hcx hN g y room (q.2 - 1) hy (by omega) hr
   ·rfl
theorem pY' (hB:GoodB B) (h:Ins k c c') (hcx:CxOk B c) (hN:c.length <= 70000) (hx:Ft (QB B) (c.length:Int) x) (f:Int):aM' B c' (up k x) f = qr' (up k) (aM' B c x f):=by
 have hl:=hx.len;exact lQ' hB h hcx hN GW x 4096 _ hx (by unfold len; omega) (by omega)
end
def Lf {α β:Type} (f:α -> β) (m:Except Int (α × Nat)) (m':Except Int (β × Nat)):Prop:=m' = .error 5 \/ m' = qr' f m
theorem Lf.er {α β:Type} {f:α -> β} (e:Int):Lf f (.error e) (.error e):=.inr rfl
theorem Lf.ok {α β:Type} {f:α -> β} {z:α} {y:β} {n:Nat} (h:y = f z):Lf f (.ok (z,n)) (.ok (y,n)):=.inr (by rw [h]; rfl)
theorem Lf.ite {α β:Type} {f:α -> β} {c:Prop} [Decidable c] {m k:Except Int (α × Nat)} {m' k':Except Int (β × Nat)} (h:c -> Lf f m m') (hk:¬ c -> Lf f k k'):Lf f (if c then m else k) (if c then m' else k'):=by
 split
 ·rename_i g; exact h g
 ·rename_i g; exact hk g
theorem Lf.cut {α β:Type} {f:α -> β} {c':Ctx} {c:Ctx} {m:Except Int (α × Nat)} {m':Except Int (β × Nat)} (hl:c'.length = c.length + 1) (h:¬ 256 < c.length -> ¬ 256 < c'.length -> Lf f m m'):Lf f (if 256 < c.length then .error 5 else m) (if 256 < c'.length then .error 5 else m'):=by
 by_cases g:256 < c'.length
 ·rw [if_pos g]
  exact .inl rfl
 ·rw [if_neg g,if_neg (by omega)]
  exact h (by omega) g
theorem Lf.and {m m':Except Int (Bool × Nat)} {k k':Nat -> Except Int (Bool × Nat)} (h:Lf id m m') (hk:∀ n,Lf id (k n) (k' n)):Lf id (fr' m k) (fr' m' k'):=by
 rcases h with rfl | rfl
 ·exact .inl rfl
 ·cases m with
  | error e=>exact .inr rfl
  | ok z =>
   simp only [fr',qr',id_eq];exact Lf.ite (fun _=>hk _) fun _=>.ok rfl
section
variable {B:BoT} {c c':Ctx} {k:Nat} {x:Tr}
def vC' (B:BoT) (rc rc':RcC):Prop:=∀ (k:Nat) (c c':Ctx) (x y:Tr) (u:Bool) (n:Nat),Ins k c c' -> CxOk B c -> c.length <= 260 -> Ft (QB B) (c.length:Int) x -> Ft (QB B) (c.length:Int) y -> Lf id (rc c x y u n) (rc' c' (up k x) (up k y) u n)
theorem lR' {rc rc':RcC} (h:vC' B rc rc') (hi:Ins k c c') (hcx:CxOk B c) (hl:c.length <= 260):∀ (xs ys:List Tr) (n:Nat),(∀ y ∈ xs,Ft (QB B) (c.length:Int) y) -> (∀ y ∈ ys,Ft (QB B) (c.length:Int) y) -> Lf id (jp' rc c xs ys n) (jp' rc' c' (xs.map (up k)) (ys.map (up k)) n)
 | [],_,_,_,_=>by simp only [jp',List.map_nil]; exact .ok rfl
 | _ :: _,[],_,_,_=>by simp only [jp',List.map_nil,List.map_cons]; exact .ok rfl
 | x :: r,y :: s,n,hx,hy=>by
  simp only [jp',List.map_cons];exact (h k c c' x y false n hi hcx hl (hx x (by simp)) (hy y (by simp))).and fun n=>lR' h hi hcx hl r s n (fun z hz=>hx z (by simp [hz])) fun z hz=>hy z (by simp [hz])
def Par (B:BoT) (a b:Int) (l:List Tr):Prop:=∀ (i:Nat) y,l[i]? = some y -> Ft (QB B) (if i % 2 = 0 then a else b) y
theorem Par.two {a b:Int} {x y:Tr} {r:List Tr} (h:Par B a b (x :: y :: r)):Ft (QB B) a x /\ Ft (QB B) b y /\ Par B a b r:=by
 refine ⟨h 0 x rfl,h 1 y rfl,fun i z hz=>?_⟩;have:=h (i + 2) z hz
 rwa [show (i + 2) % 2 = i % 2 by omega] at this
theorem lS' {N:Int} {f:Tr} (h:Ft (QB B) N f) (h12:f.n.op = 12):Par B N (N + f.n.b) (kidsT f):=fun i y hy=>by
 have hk:=bg' h.ok h12;have hl:=aG' h.ok h12;have hi:=ai' hy;have:=bt' h h12 (i:=i / 2) (by omega)
 by_cases e:i % 2 = 0
 ·rw [if_pos e]
  rw [show 2 * (i / 2) = i by omega] at this;rw [this.1] at hy;obtain rfl:=JB hy;exact this.2.2.1
 ·rw [if_neg e]
  rw [show 2 * (i / 2) + 1 = i by omega] at this;rw [this.2.1] at hy;obtain rfl:=JB hy;exact this.2.2.2
def upP (a b:Int):List Tr -> List Tr
 | x :: y :: r=>up a x :: up b y :: upP a b r
 | l=>l
theorem pZ' (a b:Int):∀ (l:List Tr) (t:Nat),l.length % 2 = 0 -> t < l.length -> (upP a b l).getD t (varX 0) = up (if t % 2 = 1 then b else a) (l.getD t (varX 0))
 | [],t,_,h=>by simp at h
 | [x],t,h,_=>by simp at h
 | x :: y :: r,0,_,_=>by simp [upP]
 | x :: y :: r,1,_,_=>by simp [upP]
 | x :: y :: r,t + 2,h,ht=>by
  have:=pZ' a b r t (by simp only [JV] at h; omega) (by simpa using ht);rw [show (t + 2) % 2 = t % 2 by omega]
  simpa [upP] using this
theorem lT' (a b:Int):∀ (l:List Tr),(upP a b l).length = l.length
 | []=>rfl
 | [x]=>rfl
 | x :: y :: r=>by simp [upP,lT' a b r]
theorem eF' {k:Int} (hx:Ok .tm x) (h12:x.n.op = 12):kidsT (up k x) = upP k (k + x.n.b) (kidsT x):=by
 have hk:=bg' hx h12;obtain ⟨e1,e2⟩:=lP' (k:=k) hx (by omega);refine mY' (by rw [lT',e1]) fun i hi=>?_;rw [lT'] at hi;have:=e2 i hi;rw [pZ' _ _ _ _ (by omega) hi];unfold kidD at this;rw [this];unfold kb;rw [if_pos h12];split
 ·rfl
 ·rw [Int.add_zero]
theorem qa' {rc rc':RcC} (h:vC' B rc rc') {j:Nat} {d d':Ctx} (hi:Ins k c c') (hcx:CxOk B c) (hl:c.length <= 260) (hj:Ins j d d') (hd:CxOk B d) (hdl:d.length <= 260):∀ (xs ys:List Tr) (n:Nat),Par B (c.length:Int) (d.length:Int) xs -> Par B (c.length:Int) (d.length:Int) ys -> Lf id (hY' rc c d xs ys n) (hY' rc' c' d' (upP k j xs) (upP k j ys) n)
 | [],_,_,_,_=>by simp only [hY',upP]; exact .ok rfl
 | [_],_,_,_,_=>by simp only [hY',upP]; exact .ok rfl
 | _ :: _ :: _,[],_,_,_=>by simp only [hY',upP]; exact .ok rfl
 | _ :: _ :: _,[_],_,_,_=>by simp only [hY',upP]; exact .ok rfl
 | x :: a :: r,y :: b :: s,n,hx,hy=>by
  simp only [hY',upP];obtain ⟨x1,x2,x3⟩:=hx.two;obtain ⟨y1,y2,y3⟩:=hy.two;exact (h k c c' x y false n hi hcx hl x1 y1).and fun n=>(h j d d' a b false n hj hd hdl x2 y2).and fun n=>qa' h hi hcx hl hj hd hdl r s n x3 y3
theorem kS' (hf:Ft (QB B) (c.length:Int) x) (h12:x.n.op = 12) (hN:c.length <= 70000) (hi:Ins k c c'):Ins (k + x.n.b.toNat) (c ++ aI' x) (c' ++ aI' (up k x)):=by
 have hl:=aG' hf.ok h12;have en:(up (k:Int) x).n = x.n:=gi' (by omega);have e:=hi.app (m:=aI' x) (m':=aI' (up k x)) (by rw [aK',aK',en]) fun i q hq=>by
  have hit:=ai' hq;rw [aK'] at hit;rw [dm' hit] at hq;obtain rfl:=JB hq;rw [dm' (by rw [en]; exact hit)];have hk:=bg' hf.ok h12;obtain ⟨_,_,h3,_⟩:=bt' hf h12 hit;have hb0:kb x.n (2 * i) = 0:=by
   unfold kb;rw [if_pos h12,if_neg (by omega)]
  rw [aW' hf.ok (by omega) (by omega) hb0];simp only [Option.map_none];rw [<- cA' (qk B) h3 (by omega) (b:=(i:Int)) (k:=(k:Int)) (by omega) (by omega) (by omega),show ((k + i:Nat):Int) = (k:Int) + (i:Int) by omega]
 rwa [aK'] at e
theorem kT' {n:Nd} {ks:List Tr} {k:Int} (h1:n.op = 1):up k (.mk n ks) = .mk (upN k n) []:=by unfold up; rw [bU' h1]; rfl
theorem qb' {k:Int} {f g:Tr}:(up k f).n = (up k g).n ↔ f.n = g.n:=by
 by_cases h1:f.n.op = 1
 ·by_cases h2:g.n.op = 1
  ·obtain ⟨⟨o,a,b⟩,ks⟩:=f
   obtain ⟨⟨o',a',b'⟩,ks'⟩:=g;have h1:o = 1:=h1;have h2:o' = 1:=h2;subst h1 h2;rw [kT' rfl,kT' rfl];simp only [Tr.n,upN,Nd.mk.injEq,true_and];constructor
   ·rintro ⟨e,rfl⟩
    refine ⟨?_,rfl⟩;split at e <;> split at e <;> omega
   ·rintro ⟨rfl,rfl⟩
    exact ⟨rfl,rfl⟩
  ·have e1:(up k f).n.op = 1:=by rw [bF']; exact h1
   have e2:(up k g).n.op ≠ 1:=by rw [bF']; exact h2
   exact ⟨fun e=>absurd (e ▸ e1) e2,fun e=>absurd (e ▸ h1) h2⟩
 ·by_cases h2:g.n.op = 1
  ·have e1:(up k f).n.op ≠ 1:=by rw [bF']; exact h1
   have e2:(up k g).n.op = 1:=by rw [bF']; exact h2
   exact ⟨fun e=>absurd (e ▸ e2) e1,fun e=>absurd (e ▸ h2) h1⟩
  ·rw [gi' h1,gi' h2]
theorem hQ' (hcx:CxOk B c) {t:Tr} (ht:Ft (QB B) (c.length:Int) t):CxOk B (c ++ [(t,none)]):=hcx.snoc ht fun x hx=>by cases hx
theorem ci' {t:Tr} {v:Option Tr}:((c ++ [(t,v)]).length:Int) = (c.length:Int) + 1:=by simp
theorem gw' {k:Int} (hx:Ok .tm x) (h1:x.n.op = 1):kidsT x = [] /\ kidsT (up k x) = []:=by
 obtain ⟨n,ks⟩:=x;have h1:n.op = 1:=h1;have e:ks = []:=List.length_eq_zero_iff.1 (ey' hx.kids.1 h1);subst e;rw [kT' (n:=n) (ks:=[]) h1];have h2:(upN k n).op = 1:=h1;simp [kidsT,h1,h2]
theorem rT' {rc rc':RcC} (h:vC' B rc rc') (hi:Ins k c c') (hcx:CxOk B c) (hl:c.length <= 256) {f g:Tr} (hf:Ft (QB B) (c.length:Int) f) (hg:Ft (QB B) (c.length:Int) g) (hop:f.n.op = g.n.op) (h7:f.n.op ≠ 7) (u:Bool) (n:Nat):Lf id (dH' B rc c f g u n) (dH' B rc' c' (up k f) (up k g) u n):=by
 unfold dH';rw [bF'];refine Lf.ite (fun g2=>?_) fun g2=>Lf.ite (fun g4=>?_) fun g4=>Lf.ite (fun g5=>?_) fun g5=>Lf.ite (fun g12=>?_) fun g12=>?_
 ·refine .ok ?_
  unfold kx';rw [gi' (by omega),gi' (x:=g) (by omega),mZ' hf.ok g2,mZ' hg.ok (by omega)]
  rfl
 ·obtain ⟨lf,f0,f1⟩:=aB' hf (.inl g4)
  obtain ⟨lg,g0,g1⟩:=aB' hg (.inl (hop ▸ g4));have b0:∀ z:Tr,z.n.op = 4 -> kb z.n 0 = 0:=fun z hz=>by simp [kb,aJ',hz]
  have b1:∀ z:Tr,z.n.op = 4 -> kb z.n 1 = 1:=fun z hz=>by simp [kb,aJ',hz]
  rw [aW' hf.ok (by omega) (by omega) (b0 f g4),aW' hg.ok (by omega) (by omega) (b0 g (by omega)),dq' hf.ok (by omega) (by omega) (b1 f g4),dq' hg.ok (by omega) (by omega) (b1 g (by omega))];exact (h k c c' _ _ false n hi hcx (by omega) f0 g0).and fun n=>h (k + 1) _ _ _ _ u n (hi.snocN _) (hQ' hcx f0) (by simp; omega) (by rw [ci']; exact f1) (by rw [ci']; exact g1)
 ·obtain ⟨lf,f0,f1⟩:=aB' hf (.inr g5)
  obtain ⟨lg,g0,g1⟩:=aB' hg (.inr (hop ▸ g5));have b0:∀ z:Tr,z.n.op = 5 -> kb z.n 0 = 0:=fun z hz=>by simp [kb,aJ',hz]
  have b1:∀ z:Tr,z.n.op = 5 -> kb z.n 1 = 1:=fun z hz=>by simp [kb,aJ',hz]
  rw [aW' hf.ok (by omega) (by omega) (b0 f g5),aW' hg.ok (by omega) (by omega) (b0 g (by omega)),dq' hf.ok (by omega) (by omega) (b1 f g5),dq' hg.ok (by omega) (by omega) (b1 g (by omega))];exact (h k c c' _ _ false n hi hcx (by omega) f0 g0).and fun n=>h (k + 1) _ _ _ _ false n (hi.snocN _) (hQ' hcx f0) (by simp; omega) (by rw [ci']; exact f1) (by rw [ci']; exact g1)
 ·simp only [qb']
  refine Lf.ite (fun e=>?_) fun _=>.ok rfl;unfold hj';rw [(dr' hf.ok g12).1,(dr' hg.ok (by omega)).1];refine Lf.ite (fun _=>?_) fun _=>.ok rfl;have hl2:=aG' hf.ok g12;have e2:((c ++ aI' f).length:Int) = (c.length:Int) + f.n.b:=by rw [JK,aK']; omega
  rw [eF' hf.ok g12,eF' hg.ok (by omega),<- e];have:=qa' h hi hcx (by omega) (kS' hf g12 (by omega) hi) (fc' hcx (by omega) hf g12) (by omega) (kidsT f) (kidsT g) n (by rw [e2]; exact lS' hf g12) (by rw [e2,e]; exact lS' hg (by omega))
  rwa [show ((k + f.n.b.toNat:Nat):Int) = (k:Int) + f.n.b by omega] at this
 ·simp only [qb']
  refine Lf.ite (fun e=>?_) fun _=>.ok rfl
  by_cases h1:f.n.op = 1
  ·rw [(gw' (k:=k) hf.ok h1).1,(gw' (k:=k) hg.ok (hop ▸ h1)).1,(gw' (k:=k) hf.ok h1).2,(gw' (k:=k) hg.ok (hop ▸ h1)).2]
   exact .ok rfl
  ·rw [gv' hf.ok h1 ⟨g4,g5,h7,g12⟩,gv' hg.ok (by omega) (by rw [<- hop]; exact ⟨g4,g5,h7,g12⟩)]
   exact lR' h hi hcx (by omega) _ _ n (fe' hf ⟨g4,g5,h7,g12⟩) (fe' hg (by rw [<- hop]; exact ⟨g4,g5,h7,g12⟩))
theorem ud' {rc rc':RcC} (h:vC' B rc rc') (hi:Ins k c c') (hcx:CxOk B c) (hl:c.length <= 256) {y:Tr} (hx:Ft (QB B) (c.length:Int) x) (hy:Ft (QB B) (c.length:Int) y) (h7:(headT x).n.op ≠ 7) (u:Bool) (n:Nat):Lf id (ky' B rc c x y u n) (ky' B rc' c' (up k x) (up k y) u n):=by
 unfold ky';rw [aQ' hx.ok,aQ' hy.ok,bF',bF',aV' hx.ok,aV' hy.ok,List.length_map,List.length_map];refine Lf.ite (fun _=>.ok rfl) fun g=>?_;exact (rT' h hi hcx hl hx.head hy.head (by omega) h7 u n).and fun n=>lR' h hi hcx (by omega) _ _ n hx.args hy.args
theorem qc' {y:Tr} (hx:Ok .tm x) (hy:Ok .tm y) (h:row x = row y):x = y:=by rw [<- cJ' hx,<- cJ' hy,h]
theorem vD' {k:Int} {Q:Nd -> Prop} (hQ:Qk Q) {N:Int} (hN:N <= 100000) {y:Tr} (hx:Ft Q N x) (hy:Ft Q N y):(row (up k x) = row (up k y)) ↔ row x = row y :=
 ⟨fun h=>by rw [vy' hx.ok hy.ok (qc' (hx.up hQ (k:=k) hN).ok (hy.up hQ (k:=k) hN).ok h)],fun h=>by rw [qc' hx.ok hy.ok h]⟩
theorem sJ' (hB:GoodB B):∀ g,vC' B (mK' B g) (mK' B g)
 | 0=>fun k c c' x y u n _ _ _ _ _=>.er 10
 | g + 1=>fun k c c' x y u n hi hcx hl hx hy=>by
  simp only [mK',vD' (qk B) (show (c.length:Int) <= 100000 by omega) hx hy];refine Lf.ite (fun _=>.er 10) fun _=>Lf.ite (fun _=>.ok rfl) fun _=>Lf.cut hi.len fun g1 g2=>?_;rw [pY' hB hi hcx (by omega) hx];cases h1:aM' B c x ((n - 1:Nat):Int) with
  | error e=>exact .er e
  | ok p =>
   have f1:=iC' hB hcx (by omega) hx h1;simp only [qr'];rw [pY' hB hi hcx (by omega) hy];cases h2:aM' B c y (p.2:Int) with
   | error e=>exact .er e
   | ok q =>
    have f2:=iC' hB hcx (by omega) hy h2;exact ud' (sJ' hB g) hi hcx (by omega) f1.1 f2.1 f1.2 u q.2
end
section
variable {B:BoT} {k:Int} {x:Tr} {m pl:List Int}
theorem rU' (h1:x.n.op = 1):(up k x).n = upN k x.n:=by
 obtain ⟨n,ks⟩:=x;have h1:n.op = 1:=h1;rw [kT' h1]
 rfl
theorem qd' (h0:0 <= k) (n:Nd):ofM m (upN (k + m.length) n).a = ofM m n.a:=by
 unfold ofM upN;simp only
 by_cases c:k + m.length <= n.a
 ·rw [if_pos c,if_pos (by omega),if_pos (by omega)]
 ·rw [if_neg c]
theorem qe' (h0:0 <= k) (hx:Ok .tm x):lB' (up (k + m.length) x) m = lB' x m:=by
 unfold lB';rw [aQ' hx,bF']
 by_cases h1:(headT x).n.op = 1
 ·rw [rU' h1,qd' h0]
 ·simp [h1]
theorem ue' (h0:0 <= k) (hx:Ok .tm x):nu' (up (k + m.length) x) m = nu' x m:=by
 have e:(if (headT (up (k + m.length) x)).n.op = 1 then ofM m (headT (up (k + m.length) x)).n.a else 0) = if (headT x).n.op = 1 then ofM m (headT x).n.a else 0:=by
  rw [aQ' hx,bF']
  by_cases h1:(headT x).n.op = 1
  ·rw [if_pos h1,if_pos h1,rU' h1,qd' h0]
  ·rw [if_neg h1,if_neg h1]
 unfold nu';simp only [e,aV' hx,List.length_map]
def FiUp (B:BoT) (k:Int) (rc:RcF):Prop:=∀ (N:Int) (x:Tr) (m:List Int),Ft (QB B) N x -> rc (up (k + m.length) x) m = rc x m
theorem FiUp.at {rc:RcF} (h:FiUp B k rc) {N:Int} (hx:Ft (QB B) N x) {j:Int} (hj:j = k + m.length):rc (up j x) m = rc x m:=by
 subst hj;exact h N x m hx
theorem vO' {v:Int}:((m ++ [v]).length:Int) = m.length + 1:=by simp
theorem fo' {j:Int} (hx:Ok .tm x) (h:x.n.op = 4 \/ x.n.op = 5) (hl:(kidsT x).length = 2):kidD (up j x) 0 = up j (kidD x 0) /\ kidD (up j x) 1 = up (j + 1) (kidD x 1) :=
 ⟨aW' hx (by omega) (by omega) (by rcases h with h | h <;> simp [kb,aJ',h]),dq' hx (by omega) (by omega) (by rcases h with h | h <;> simp [kb,aJ',h])⟩
theorem kU' {rc:RcF} (h:FiUp B k rc):∀ (n:Nat) (N:Int) (x:Tr) (m:List Int),Ft (QB B) N x -> bd' rc n (up (k + m.length) x) m = bd' rc n x m
 | 0,N,x,m,hx=>h N x m hx
 | n + 1,N,x,m,hx=>by
  simp only [bd'];rw [bF']
  by_cases h5:x.n.op = 5
  ·obtain ⟨hl,f0,f1⟩:=aB' hx (.inr h5)
   obtain ⟨e0,e1⟩:=fo' (j:=k + m.length) hx.ok (.inr h5) hl;rw [if_pos h5,if_pos h5,e0,e1,h _ _ _ f0];have:=kU' h n _ _ (m ++ [2]) f1;rw [vO'] at this;rw [Int.add_assoc,this]
  ·rw [if_neg h5,if_neg h5]
   exact h N x m hx
theorem hR' {rc:RcF} (h:FiUp B k rc) {N:Int} (a:Int) (d:Bool) (m:List Int):∀ (l:List Tr) (i:Nat),(∀ y ∈ l,Ft (QB B) N y) -> cX' B rc a d m i (l.map (up (k + m.length))) = cX' B rc a d m i l
 | [],i,_=>rfl
 | y :: r,i,hy=>by
  simp only [cX',List.map_cons];rw [kU' h _ N y m (hy y (by simp)),hR' h a d m r (i + 1) fun z hz=>hy z (by simp [hz])]
theorem qf' {rc:RcF} (h:FiUp B k rc) (h0:0 <= k) {N:Int} (hx:Ft (QB B) N x) (h11:x.n.op = 11) (m:List Int):eC' B rc (up (k + m.length) x) m = eC' B rc x m:=by
 obtain ⟨hl,hb,_,hk⟩:=ej' hx h11;have e:=gv' (k:=k + m.length) hx.ok (by omega) (by omega);have g:∀ i:Nat,i < 2 -> kidD (up (k + m.length) x) i = up (k + m.length) (kidD x i) /\ Ft (QB B) N (kidD x i):=fun i hi=>by
  refine ⟨?_,hk _ (bx' (by omega))⟩;unfold kidD;rw [e,cB' _ (by omega)]
 unfold eC';rw [(g 0 (by omega)).1,(g 1 (by omega)).1,h _ _ _ (g 0 (by omega)).2,h _ _ _ (g 1 (by omega)).2,gi' (by omega),ue' h0 (g 1 (by omega)).2.ok,e,<- List.map_drop,hR' h _ _ _ _ _ fun y hy=>hk y (List.mem_of_mem_drop hy)]
theorem qg' {rc:RcF} (h:FiUp B k rc) {a b:Int} (m m':List Int):∀ (l:List Tr),Par B a b l -> sx' rc m m' (upP (k + m.length) (k + m'.length) l) = sx' rc m m' l
 | [],_=>rfl
 | [_],_=>rfl
 | t :: y :: r,hl=>by
  obtain ⟨f1,f2,f3⟩:=hl.two;simp only [upP,sx'];rw [h _ _ _ f1,h _ _ _ f2,qg' h m m' r f3]
theorem vE' {l:List Tr} {P:Tr -> Bool} {f:Tr -> Tr} (h:∀ y ∈ l,P (f y) = P y):(l.map f).all P = l.all P:=by
 induction l with
 | nil=>rfl
 | cons x r ih =>
  simp only [List.map_cons,List.all_cons];rw [h x (by simp),ih fun y hy=>h y (by simp [hy])]
theorem qh' (h0:0 <= k):∀ g,FiUp B k (bY' B pl g)
 | 0=>fun N x m hx=>rfl
 | g + 1=>fun N x m hx=>by
  have ih:=qh' h0 g;have hh:=hx.head;simp only [bY'];rw [aQ' hx.ok,aV' hx.ok,vE' fun y hy=>ih N y m (hx.args y hy),bF']
  congr 1
  split
  ·rename_i h1
   rw [rU' h1,qd' h0,List.length_map];split
   ·rfl
   by_cases hp:pl.getD (ofM m (headT x).n.a - 100).toNat 0 < (argsT x).length
   ·by_cases hp0:0 <= pl.getD (ofM m (headT x).n.a - 100).toNat 0
    ·unfold nr'
     rw [aV' hx.ok,cB' _ (by omega),qe' h0 (hx.args _ (bx' (by omega))).ok]
    ·have e:(pl.getD (ofM m (headT x).n.a - 100).toNat 0).toNat = 0:=by omega
     unfold nr';rw [aV' hx.ok,e]
     by_cases ha:0 < (argsT x).length
     ·rw [cB' _ ha,qe' h0 (hx.args _ (bx' ha)).ok]
     ·have:argsT x = []:=List.length_eq_zero_iff.1 (by omega)
      rw [this]
      rfl
   ·rw [decide_eq_false hp,Bool.false_and,Bool.false_and]
  split
  ·rename_i h11
   exact qf' ih h0 hh h11 m
  split
  ·rename_i h4
   obtain ⟨hl,f0,f1⟩:=aB' hh h4;obtain ⟨e0,e1⟩:=fo' (j:=k + m.length) hh.ok h4 hl;rw [e0,e1,ih _ _ _ f0,ih.at f1 (by rw [vO']; omega)]
  split
  ·rename_i h7
   obtain ⟨hl,f0,f1,f2⟩:=gs' hh h7;rw [aW' hh.ok (by omega) (i:=0) (by omega) (by simp [kb,aJ',h7]),aW' hh.ok (by omega) (i:=1) (by omega) (by simp [kb,aJ',h7]),dq' hh.ok (by omega) (i:=2) (b:=1) (by omega) (by simp [kb,aJ',h7]),ih _ _ _ f0,ih _ _ _ f1,ih.at f2 (by rw [vO']; omega)]
  split
  ·rename_i h12
   have hb:=aG' hh.ok h12;rw [eF' hh.ok h12,gi' (x:=headT x) (by omega)];have:=qg' ih m (m ++ List.replicate (headT x).n.b.toNat 0) _ (lS' hh h12);have el:((m ++ List.replicate (headT x).n.b.toNat (0:Int)).length:Int) = m.length + (headT x).n.b:=by rw [JK,List.length_replicate]; omega
   rw [el] at this;rw [show k + m.length + (headT x).n.b = k + (m.length + (headT x).n.b) by omega];exact this
  ·rfl
theorem nc':∀ (p:Nat) (N:Int) (x:Tr) (j:Int),Ft (QB B) N x -> cz' p (up j x) = cz' p x
 | 0,N,x,j,hx=>by
  simp only [cz'];rw [bF']
  by_cases h4:x.n.op = 4
  ·obtain ⟨hl,f0,f1⟩:=aB' hx (.inl h4)
   rw [(fo' hx.ok (.inl h4) hl).1,aQ' f0.ok,bF']
  ·simp [h4]
 | p + 1,N,x,j,hx=>by
  simp only [cz'];rw [bF']
  by_cases h4:x.n.op = 4
  ·obtain ⟨hl,f0,f1⟩:=aB' hx (.inl h4)
   rw [(fo' hx.ok (.inl h4) hl).2,nc' p _ _ _ f1]
  ·simp [h4]
theorem qi' {rc:RcF} (h:FiUp B k rc):∀ (r:Nat) (N:Int) (x:Tr) (m:List Int),Ft (QB B) N x -> gh' rc r (up (k + m.length) x) m = gh' rc r x m
 | 0,N,x,m,hx=>h N x m hx
 | r + 1,N,x,m,hx=>by
  simp only [gh'];rw [bF']
  by_cases h5:x.n.op = 5
  ·obtain ⟨hl,f0,f1⟩:=aB' hx (.inr h5)
   obtain ⟨e0,e1⟩:=fo' (j:=k + m.length) hx.ok (.inr h5) hl;have:=qi' h r _ _ (m ++ [if r = 0 then 1 else 0]) f1;rw [vO'] at this;rw [e0,e1,h _ _ _ f0,Int.add_assoc,this]
  ·simp [h5]
theorem rV' {N:Int} (h0:0 <= k) (hx:Ft (QB B) N x) (h12:x.n.op = 12):dX' B (up k x) = dX' B x:=by
 have hl:=aG' hx.ok h12;have en:(up k x).n = x.n:=gi' (by omega);have hok:∀ i:Nat,i < x.n.b.toNat -> nw' B (up k x) i = nw' B x i:=fun i hi=>by
  have hk:=bg' hx.ok h12;obtain ⟨_,_,f0,f1⟩:=bt' hx h12 hi;have e0:kb x.n (2 * i) = 0:=by
   unfold kb;rw [if_pos h12,if_neg (by omega)]
  have e1:kb x.n (2 * i + 1) = x.n.b:=by
   unfold kb;rw [if_pos h12,if_pos (by omega)]
  have el:((lay1 x.n.b.toNat x.n.b.toNat).length:Int) = x.n.b:=by simp [lay1]; omega
  unfold nw';rw [(dr' hx.ok h12).1,en,aW' hx.ok (by omega) (by omega) e0,dq' hx.ok (by omega) (by omega) e1,nc' _ _ _ _ f0];have:=qi' (qh' (B:=B) (pl:=placesM x) h0 4096) (((placesM x).getD i 0).toNat + 1) _ _ (lay1 x.n.b.toNat x.n.b.toNat) f1;rw [el] at this;rw [this]
 have go:∀ (r i:Nat),i + r = x.n.b.toNat -> dW' B (up k x) r i = dW' B x r i:=by
  intro r
  induction r with
  | zero=>intro i _; rfl
  | succ r ih =>
   intro i hi;simp only [dW'];rw [hok i (by omega),ih (i + 1) (by omega)]
 unfold dX';rw [en];exact go _ 0 (by omega)
end
def Lu {α β:Type} (R:α -> Prop) (f:α -> β) (m:Except Int (α × Nat)) (m':Except Int (β × Nat)):Prop:=m' = .error 5 \/ (m' = qr' f m /\ ∀ z n,m = .ok (z,n) -> R z)
section
variable {α β γ δ:Type} {R T:α -> Prop} {S:β -> Prop} {f:α -> γ} {g:β -> δ} {m:Except Int (α × Nat)} {m':Except Int (γ × Nat)}
theorem Lu.bd {k:α -> Nat -> Except Int (β × Nat)} {k':γ -> Nat -> Except Int (δ × Nat)} (h:Lu R f m m') (hk:∀ z n,R z -> Lu S g (k z n) (k' (f z) n)):Lu S g (bdJ m k) (bdJ m' k'):=by
 rcases h with rfl | ⟨rfl,hR⟩
 ·exact .inl rfl
 ·cases m with
  | error e=>exact .inr ⟨rfl,fun z n h=>by cases h⟩
  | ok z=>exact hk z.1 z.2 (hR z.1 z.2 rfl)
theorem Lu.er (e:Int):Lu R f (.error e) (.error e):=.inr ⟨rfl,fun z n h=>by cases h⟩
theorem Lu.ok {z:α} {y:γ} {n:Nat} (h:y = f z) (hR:R z):Lu R f (.ok (z,n)) (.ok (y,n)):=.inr ⟨by rw [h]; rfl,fun z' n' e=>by
 injection e with e
 injection e with e1 e2
 subst e1;exact hR⟩
theorem Lu.ite {c:Prop} [Decidable c] {k:Except Int (α × Nat)} {k':Except Int (γ × Nat)} (h:c -> Lu R f m m') (hk:¬ c -> Lu R f k k'):Lu R f (if c then m else k) (if c then m' else k'):=by
 split
 ·rename_i g; exact h g
 ·rename_i g; exact hk g
theorem Lf.lu (h:Lf f m m') (hR:∀ z n,m = .ok (z,n) -> R z):Lu R f m m':=h.imp id fun h=>⟨h,hR⟩
theorem Lu.pu {q:Except Int α} {q':Except Int γ} (h:q' = hZ' f q) (n:Nat) (hR:∀ z,q = .ok z -> R z):Lu R f (puJ q n) (puJ q' n):=by
 subst h;cases q with
 | error e=>exact .er e
 | ok z=>exact .ok rfl (hR z rfl)
theorem Lu.wk (h:Lu R f m m') (hs:∀ z,R z -> T z):Lu T f m m':=h.imp id fun h=>⟨h.1,fun z n e=>hs z (h.2 z n e)⟩
theorem Lu.same (hR:∀ z n,m = .ok (z,n) -> R z):Lu R id m m:=.inr ⟨by cases m <;> rfl,hR⟩
end
section
variable {B:BoT} {c c':Ctx} {k:Nat} {x:Tr} {rc:RcJ}
theorem fp' (hB:GoodB B) (hi:Ins k c c') (hcx:CxOk B c) (hl:c.length <= 260) (hx:Ft (QB B) (c.length:Int) x) (n:Nat):Lu (fun z=>c.length <= 256 /\ Ft (QB B) (c.length:Int) z) (up k) (dM' B c x n) (dM' B c' (up k x) n):=by
 refine Lf.lu ?_ fun z n' h=>?_
 ·unfold dM'
  exact Lf.cut hi.len fun _ _=>.inr (pY' hB hi hcx (by omega) hx n)
 ·have:=ea' hB hcx hx h
  exact ⟨this.1,this.2.2⟩
theorem nd' (hB:GoodB B) (hi:Ins k c c') (hcx:CxOk B c) (hl:c.length <= 260) {y:Tr} (hx:Ft (QB B) (c.length:Int) x) (hy:Ft (QB B) (c.length:Int) y) (u:Bool) (n:Nat):Lu (fun _=>c.length <= 256) id (dI' B c x y u n) (dI' B c' (up k x) (up k y) u n):=by
 refine Lf.lu ?_ fun z n' h=>(fi' h).1;unfold dI' hA';exact Lf.cut hi.len fun _ _=>sJ' hB GC k c c' x y u _ hi hcx hl hx hy
def rW' (B:BoT) (rc:RcJ):Prop:=∀ (k:Nat) (c c':Ctx) (x:Tr) (n:Nat),Ins k c c' -> CxOk B c -> c.length <= 260 -> Ft (QB B) (c.length:Int) x -> Lu (Ft (QB B) (c.length:Int)) (up k) (rc c x n) (rc c' (up k x) n)
theorem hT' (hB:GoodB B) (h:rW' B rc) (hi:Ins k c c') (hcx:CxOk B c) (hl:c.length <= 260) (hx:Ft (QB B) (c.length:Int) x) (n:Nat):Lu (fun q=>c.length <= 256 /\ (q.1 = 0 \/ q.1 = 1) /\ rz' B.vars q.2) id (dY' B rc c x n) (dY' B rc c' (up k x) n):=by
 unfold dY';refine (h k c c' x n hi hcx hl hx).bd fun ty n hty=>(fp' hB hi hcx hl hty n).bd fun z n hz=>?_;rw [aQ' hz.2.ok,aV' hz.2.ok,bF',List.length_map];refine Lu.ite (fun _=>.er 11) fun g=>.ok ?_ ⟨hz.1,kD' hz.2.head.ok (by omega),kC' hz.2.head (by omega)⟩;rw [gi' (by omega),mZ' hz.2.head.ok (by omega)]
 rfl
theorem gx' (hB:GoodB B) (h:rW' B rc) (hi:Ins k c c') (hcx:CxOk B c) (hl:c.length <= 260) {y:Tr} (hx:Ft (QB B) (c.length:Int) x) (hy:Ft (QB B) (c.length:Int) y) (n:Nat):Lu (fun _=>c.length <= 256) id (cY' B rc c x y n) (cY' B rc c' (up k x) (up k y) n):=by
 unfold cY';exact (h k c c' x n hi hcx hl hx).bd fun z n hz=>(nd' hB hi hcx hl hz hy true n).bd fun b n hb=>Lu.ite (fun _=>.ok rfl hb) fun _=>.er 13
structure vF' (B:BoT) (a:Int):Prop where
 a0:0 <= a /\ a <= 63
 q9:QB B ⟨9,a,0⟩
 lp:(psM B a).length <= 16
 li:(qiM B a).length <= 16
 lc:(cr' B a).ctors.length <= 16
 fp:∀ (i:Nat) y,(psM B a)[i]? = some y -> Ft (QB B) (i:Int) y
 fi:∀ (i:Nat) y,(qiM B a)[i]? = some y -> Ft (QB B) (((psM B a).length + i:Nat):Int) y
 ct:∀ k:Nat,k < (cr' B a).ctors.length -> QB B ⟨10,a,(k:Int)⟩ /\ (agM B a k).length <= 16 /\ (∀ (i:Nat) y,(agM B a k)[i]? = some y -> Ft (QB B) (((psM B a).length + i:Nat):Int) y) /\ ∀ y ∈ ouM B a k,Ft (QB B) (((psM B a).length + (agM B a k).length:Nat):Int) y
theorem wv' (hB:GoodB B) {a:Int} (ha:ev' B B.ents.length a = true):vF' B a:=by
 have hal:=fg' hB ha;obtain ⟨i,x,s,ps,qi,rfl,_,hi,hxD,hF⟩:=hB.fam ha (KJ _);obtain ⟨e1,e2,e3⟩:=hF.ps_eq hi;refine ⟨hal,by simp only [QB,aZ',bR']; simp [ha],by rw [e1]; exact hF.lp,by rw [e2]; exact hF.li,by rw [hxD]; exact hF.lc,fun k y hy=>?_,fun k y hy=>?_,fun k hk=>?_⟩
 ·rw [e1] at hy
  exact (hF.up_p hB hi hy).mono (by omega)
 ·rw [e2] at hy
  rw [e1];exact (hF.up_i hB hi hy).mono (by omega)
 ·have hb:=hk
  rw [hxD] at hb;obtain ⟨c,hc,_⟩:=af' (l:=x.ctors) (k:=k) hb;obtain ⟨ga,go,hC⟩:=hF.ct k c hc;obtain ⟨e4,e5,e6⟩:=hC.ag_eq hi hc;rw [e1,e4,e5];refine ⟨?_,hC.la,fun j y hy=>(hC.up_a hi hF.kind hy).mono (by omega),fun y hy=>(hC.up_o hi hF.kind hy).mono (by omega)⟩;simp only [QB,aZ',bR'];simp [ha,hxD];omega
theorem uf' {l:List Tr} {N K:Int} (h:∀ y ∈ l,Ft (QB B) N y) (hN:N <= K):l.map (up K) = l:=by
 have:∀ y ∈ l,up K y = id y:=fun y hy=>cM' (h y hy) hN;rw [List.map_congr_left this,List.map_id]
theorem vG' {l:List Tr} {N K:Int} (h:∀ (i:Nat) y,l[i]? = some y -> Ft (QB B) (N + i) y) (hN:N <= K):(l.mapIdx fun i y=>up (K + i) y) = l:=by
 apply List.ext_getElem?;intro i;rw [List.getElem?_mapIdx];cases hy:l[i]? with
 | none=>rfl
 | some y=>simp only [Option.map_some]; rw [cM' (h i y hy) (by omega)]
theorem ne' {ys:List Tr} {N:Int} (hx:Ok .tm x) (hy:∀ y ∈ ys,Ok .tm y) (K:Int):bq' (ys.mapIdx fun i y=>up (K + i) y) (up (K + ys.length) x) = hZ' (up K) (bq' ys x):=by
 have e:=pU' (.inl rfl) ys x K hx.n13 fun y h=>(hy y h).n13;unfold bq';rw [<- e,iJ' (ja' (.inl rfl) ys x hx hy)];split
 ·rfl
 ·rfl
theorem lU' {N:Int} (h0:0 <= N) (hN:N <= 70000) {K more:Int} (hK:0 <= K) (hm:0 <= more) (hm1:more <= 1000) {ps:List Tr} (hp:∀ y ∈ ps,Ft (QB B) N y):∀ (i:Nat) (t:Tr),i <= ps.length -> i <= 1000 -> Ft (QB B) (N + i + more) t -> aS' (ps.map (up K)) more i (up (K + i + more) t) = hZ' (up (K + more)) (aS' ps more i t)
 | 0,t,_,_,_=>by simp [aS',hZ']
 | i + 1,t,hi,hi1,ht=>by
  simp only [aS'];have hpF:=hp _ (bx' (l:=ps) (i:=i) (d:=varX 0) (by omega));have hl:=hpF.lift (qk B) (b:=(i:Int)) (by omega) (by omega) (by omega);rw [cB' _ (by omega),<- cA' (qk B) hpF (by omega) (by omega) (by omega) hK];have e:=dt' (qk B) (N:=N + i) (v:=more) (k:=K + i) (x:=t) (u:=aq' (ps.getD i (varX 0)) i 0) (ht.mono (by omega)) hl (by omega) hm hm1 (by omega);rw [show K + ((i + 1:Nat):Int) + more = K + i + 1 + more by omega,e];exact cN' fun z hz=>lU' h0 hN hK hm hm1 hp i z (by omega) (by omega) (az' (qk B) (N:=N + i) (v:=more) (ht.mono (by omega)) hl (by omega) (by omega) hm (by omega) hz)
theorem vH' {n:Nd} {K:Int} (h9:n.op = 9 \/ n.op = 10):up K (.mk n []) = .mk n []:=by
 unfold up;rw [cL' (by omega)]
 rfl
theorem qj' {α β:Type} {m:Except Int α} {f:α -> Except Int β} {h:β -> β} {g:α -> Except Int β} (H:∀ x,m = .ok x -> g x = hZ' h (f x)):m.bind g = hZ' h (m.bind f):=by
 cases m with
 | error e=>rfl
 | ok x=>exact H x rfl
theorem nI' {N:Int} (h0:0 <= N) (hN:N <= 60000) {K:Int} (hK:0 <= K) {a:Int} (hF:vF' B a) {b:Nat} (hb:b < (cr' B a).ctors.length) {ps:List Tr} (hp:∀ y ∈ ps,Ft (QB B) N y) (hpl:ps.length = (psM B a).length) {mo:Tr} (hmo:Ft (QB B) N mo) :
  bZ' B a b (ps.map (up K)) (up K mo) = hZ' (up K) (bZ' B a b ps mo):=by
 obtain ⟨q10,la,fa,fo⟩:=hF.ct b hb;have hlp:=hF.lp;have hal:=hF.a0;have hlc:=hF.lc;have h10:Ft (QB B) (((psM B a).length + (agM B a b).length:Nat):Int) (.mk ⟨10,a,(b:Int)⟩ []):=hE' (by simp [ah',inR]; omega) (.inr rfl) q10;unfold bZ';refine qj' fun made hmd=>?_;have hmF:Ft (QB B) (((psM B a).length + (agM B a b).length:Nat):Int) made:=aL' (qk B) h10 (fun y hy=>by
  rcases List.mem_append.1 hy with hy | hy
  ·exact (dh' (qk B) (by omega) (by omega) y hy).mono (by omega)
  ·exact (dh' (qk B) (by omega) (by omega) y hy).mono (by omega)) hmd
 have hml:=hmo.lift (qk B) (b:=(((psM B a).length + (agM B a b).length:Nat):Int)) (by omega) (by omega) (by omega);have hall:∀ y ∈ ouM B a b ++ [made],Ft (QB B) (((psM B a).length + (agM B a b).length:Nat):Int) y:=fun y hy=>by
  rcases List.mem_append.1 hy with hy | hy
  ·exact fo y hy
  ·obtain rfl:y = made:=by simpa using hy
   exact hmF
 rw [<- cA' (qk B) hmo (by omega) (by omega) (by omega) hK];have e1:=dD' (k:=K + (((psM B a).length + (agM B a b).length:Nat):Int)) hml.ok fun y hy=>(hall y hy).ok;rw [uf' hall (by omega)] at e1;rw [e1];refine cN' fun t ht=>?_;have htF:=aL' (qk B) hml (fun y hy=>(hall y hy).mono (by omega)) ht;have hag:∀ y ∈ agM B a b,Ok .tm y:=fun y hy=>by
  obtain ⟨i,hi⟩:=JH hy;exact (fa i y hi).ok
 have e2:=ne' (N:=0) htF.ok hag (K + (psM B a).length);rw [vG' (N:=((psM B a).length:Int)) (fun i y hy=>(fa i y hy).mono (by omega)) (by omega)] at e2;rw [show K + (((psM B a).length + (agM B a b).length:Nat):Int) = K + (psM B a).length + (agM B a b).length by omega,e2];refine cN' fun u hu=>?_;have huF:=bN' (qk B) (N:=N + (psM B a).length) (htF.mono (by omega)) (fun i y hy=>(fa i y hy).mono (by omega)) hu;have e3:=lU' h0 (by omega) hK (more:=0) (by omega) (by omega) hp (psM B a).length u (by omega) (by omega) (huF.mono (by omega));rw [Int.add_zero,Int.add_zero] at e3;exact e3
theorem ug' {K v:Int} (h:v < K):up K (varX v) = varX v:=by
 unfold varX;rw [kT' rfl];unfold upN;simp only;rw [if_neg (by omega)]
theorem uh' {N:Int} (h0:0 <= N) (hN:N <= 60000) {K:Int} (hK:0 <= K) {a:Int} (hF:vF' B a) {ps:List Tr} (hp:∀ y ∈ ps,Ft (QB B) N y) (hpl:ps.length = (psM B a).length) (i:Nat) (hi:i <= (qiM B a).length) :
  ju' B a (ps.map (up K)) i (qiM B a).length = hZ' (up (K + i)) (ju' B a ps i (qiM B a).length) /\ ∀ z,ju' B a ps i (qiM B a).length = .ok z -> Ft (QB B) (N + i) z:=by
 have hlp:=hF.lp;have hli:=hF.li;have hal:=hF.a0;unfold ju';rw [List.length_map];split
 ·rename_i g
  obtain ⟨y,hy,_⟩:=af' (l:=qiM B a) (k:=i) g;have e:(qiM B a).getD i (varX 0) = y:=by rw [List.getD_eq_getElem?_getD,hy]; rfl
  rw [e];have hyF:=hF.fi i y hy;have e3:=lU' h0 (by omega) hK (more:=(i:Int)) (by omega) (by omega) hp ps.length y (by omega) (by omega) (hyF.mono (by omega));rw [cM' hyF (by omega)] at e3;exact ⟨e3,fun z hz=>js' (qk B) (more:=(i:Int)) h0 (by omega) (by omega) (by omega) hp ps.length y z (by omega) (by omega) (hyF.mono (by omega)) hz⟩
 ·rename_i g
  obtain rfl:i = (qiM B a).length:=by omega
  have h9:Ft (QB B) (N + (qiM B a).length) (.mk ⟨9,a,0⟩ []):=hE' (by simp [ah',inR]; omega) (.inl rfl) hF.q9;have hall:∀ y ∈ ps.map (fun p=>aq' p ((qiM B a).length:Int) 0) ++ varsM (qiM B a).length 0,Ft (QB B) (N + (qiM B a).length) y:=fun y hy=>by
   rcases List.mem_append.1 hy with hy | hy
   ·obtain ⟨u,hu,rfl⟩:=List.mem_map.1 hy
    exact (hp u hu).lift (qk B) (b:=((qiM B a).length:Int)) (by omega) (by omega) (by omega)
   ·exact (dh' (qk B) (by omega) (by omega) y hy).mono (by omega)
  refine ⟨?_,fun z hz=>aL' (qk B) h9 hall hz⟩;have e1:=dD' (k:=K + ((qiM B a).length:Int)) h9.ok fun y hy=>(hall y hy).ok;rw [vH' (.inl rfl)] at e1;rw [<- e1]
  congr 1
  rw [List.map_append,List.map_map,List.map_map]
  congr 1
  ·refine List.map_congr_left fun p hpm=>?_
   exact (cA' (qk B) (hp p hpm) (by omega) (by omega) (by omega) hK).symm
  ·refine (List.map_id _).symm.trans (List.map_congr_left fun y hy=>?_)
   obtain ⟨j,hj,rfl⟩:=List.mem_map.1 hy;have:=List.mem_range.1 hj;exact (ug' (by omega)).symm
end
end Go.Proofs.YtpealcfjbcpoiaaGreat
