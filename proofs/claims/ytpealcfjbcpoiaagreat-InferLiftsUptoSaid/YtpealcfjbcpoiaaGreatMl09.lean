import Derived.Test.YtpealcfjbcpoiaaGreatMl08
set_option linter.unusedVariables false
set_option linter.unusedSimpArgs false
set_option maxRecDepth 100000
set_option maxHeartbeats 4000000
namespace Go.Proofs.YtpealcfjbcpoiaaGreat
open Go.Wx Cd Tm
abbrev dA' (e:Int):List PanicEntry:=[{ v:=.iface 95 (.agg #[iV e]),recovered:=false }]
theorem jh' (v:Value) (w:World):(Instr.makeInterface 95 v).run Tryz.prog w = .ok (.iface 95 v) w:=by
 simp [Instr.makeInterface,Tryz.underlying95,go_sem]
theorem aC' (v:Value) (hv:∃ a n c,v = .slice a n c) (w:World) :
  CC 49 #[v,iV 0] w (fun e w'=>e = .returned v /\ Kp [] w w'):=by
 obtain ⟨a,n,c,rfl⟩:=hv;refine oF Tryz.func49 ?_;refine cO (args:=[_,_]) 11 [.tmp 4] τok Tryz.func49 ?_;exact ⟨rfl,Kp.refl _ _⟩
theorem bm' (v:Value) (hv:∃ a n c,v = .slice a n c) (er:Int) (he:er ≠ 0) (w:World) :
  CC 49 #[v,iV er] w (fun e w'=>e = .panicked (dA' er) /\ Kp [] w w'):=by
 obtain ⟨a,n,c,rfl⟩:=hv;refine oF Tryz.func49 ?_;refine cO (args:=[_,_]) 11 [.tmp 4] τok Tryz.func49 ?_;refine au' (p:=er ≠ 0) he ?_;refine run (jh' _ w) ?_;exact ⟨rfl,Kp.refl _ _⟩
def FoV (C:Mem) (x:Tr) (h u:Value):Prop:=TmV C (headT x) h /\ TmsV C (argsT x) u
section
variable {C:Mem} {w:World} {Q:Nd -> Prop} {N:Int}
theorem cD' (hS:Sub C w) (hold:∀ b o v,C b o v -> b < w.heap.size) {x:Tr} (hx:Ft Q N x) {v:Value} (hv:TmV C x v) :
  CC 102 #[v] w (fun e w'=>∃ h u,e = .returned (.agg #[h,u]) /\ IsTm (headT x) w w' h /\ IsTms (argsT x) w w' u /\ Kp [] w w'):=by
 refine oF Tryz.func102 ?_;refine cO (args:=[_]) 13 [.cell 2 161] τok Tryz.func102 ?_;refine new fun b w1 hb hB hs hk1=>?_;refine ab' (jf' (hS.tr hk1) (fun b o v h=>KZ (hold b o v h) hk1.size) hx hv) ?_;rintro e w2 ⟨h,u,rfl,hh,hu,hk2⟩;obtain ⟨ah,ch,rfl,hh1,hh2⟩:=hh;obtain ⟨au,cu,rfl,hu1,hu2⟩:=hu;refine stN (vs:=[.slice ah (row (headT x)).length ch,.slice au (argsT x).length cu]) (hB.kp hk2 (by simp)) rfl (by simp [Value.oneCell']) fun w3 hB3 hs3 hk3=>?_;refine nl' τok rfl [_,_] rfl (fun j v hj=>hB3.cl hj) ?_;have k13:Kp [] w w3:=Kp.newSt (w1:=w) (hk1.tr hk2) hb hk3;exact ⟨_,_,rfl,⟨ah,ch,rfl,hh1.mono fun b o v h=>⟨by have:=h.1; omega,h.2.kp hk3 (by have:=h.1; have:=hk1.size; simp; omega)⟩,hh2⟩,⟨au,cu,rfl,hu1.mono fun b o v h=>⟨by have:=h.1; omega,h.2.kp hk3 (by have:=h.1; have:=hk1.size; simp; omega)⟩,hu2⟩,k13⟩
end
theorem iu':∀ (ys:List Tr) (x a:Tr),aj' x (ys ++ [a]) = .mk appN [aj' x ys,a]
 | [],x,a=>rfl
 | y :: r,x,a=>by
  rw [List.cons_append,aj',aj',iu' r]
theorem gS':∀ (L:Nat) (x:Tr),(row x).length <= L -> Ok .tm x -> aj' (headT x) (argsT x) = x
 | 0,x,hl,_=>by
  have:=ag' x;omega
 | L + 1,.mk n ks,hl,h=>by
  by_cases h6:n.op = 6
  ·obtain ⟨f,a,rfl,hf,ha⟩:=dx' h h6
   have hp:=h.tm.1;have e:n = appN:=by
    obtain ⟨op,na,nb⟩:=n;simp only at h6;subst h6;simp [ah'] at hp;simp [appN,hp]
   have hk:kidsT (.mk n [f,a]) = [f,a]:=by simp [kidsT,h6]
   have hs:=fy' (.mk n [f,a]) f (by simp [hk]);rw [bu' h6,bI' h6,iu',gS' L f (by omega) hf,e]
  ·rw [bv' h6,bJ' h6]
   rfl
theorem Ft.spine {Q:Nd -> Prop} {N:Int} {x:Tr} (h:Ft Q N x):aj' (headT x) (argsT x) = x:=gS' _ x (KJ _) h.ok
theorem Ft.nargs {Q:Nd -> Prop} {N:Int} {x:Tr} (h:Ft Q N x):(row x).length = (argsT x).length + ((row (headT x)).length + (rows (argsT x)).length):=by
 have:=bK' (argsT x) (headT x);rw [h.spine] at this;rw [this];simp
theorem ji':∀ ys:List Tr,ys.length <= (rows ys).length
 | []=>KJ _
 | y :: r=>by
  have:=ag' y;have:=ji' r;simp only [rows,JK,JV];omega
theorem Ft.few {Q:Nd -> Prop} {N:Int} {x:Tr} (h:Ft Q N x):(argsT x).length <= 4096:=by
 have:=h.nargs;have:=h.len;omega
theorem IsTms.kp {ys:List Tr} {w w' w2:World} {v:Value} {X:List Nat} (h:IsTms ys w w' v) (k:Kp X w' w2) (hX:XL X w):IsTms ys w w2 v:=by
 obtain ⟨a,c,h1,h2,h3⟩:=h;exact ⟨a,c,h1,h2.mono fun b o v h=>⟨h.1,h.2.kp k fun hb=>by have:=hX b hb; have:=h.1; omega⟩,h3⟩
theorem IsTms.up {ys:List Tr} {w0 w w':World} {v:Value} (h:IsTms ys w w' v) (k:w0.heap.size <= w.heap.size):IsTms ys w0 w' v:=by
 obtain ⟨a,c,h1,h2,h3⟩:=h;exact ⟨a,c,h1,h2.mono fun b o v h=>⟨KQ k h.1,h.2⟩,h3⟩
section
variable {C:Mem} {w:World} {Q:Nd -> Prop} {N:Int}
theorem oY' (hS:Sub C w) {x:Tr} (hx:Ft Q N x) {h u:Value} (hf:FoV C x h u) :
  CC 103 #[.agg #[h,u]] w (fun e w'=>∃ v,e = .returned v /\ IsTm x w w' v /\ Kp [] w w'):=by
 refine oF Tryz.func103 ?_;obtain ⟨hh,hu⟩:=hf;obtain ⟨ah,ch,rfl,hh1,hh2⟩:=hh;obtain ⟨au,cu,rfl,hu1,hu2⟩:=hu;refine cO (args:=[_]) 11 [.tmp 2] τok Tryz.func103 ?_;refine new fun b w1 hb hB hs hk1=>?_;refine lb hB ?_;refine lb hB ?_;have ha:=lv' (hS.tr hk1) (N:=N) hx.head hx.args (by have:=hx.few; omega) ⟨ah,ch,rfl,hh1,hh2⟩ ⟨au,cu,rfl,hu1,hu2⟩;rw [hx.spine] at ha;refine ab' ha ?_;rintro e w2 ⟨he,hk2⟩;rw [if_neg (by have:=hx.len; omega)] at he;obtain ⟨v,rfl,hv⟩:=he;have hv':=hv.up hk1.size;obtain ⟨av,cv,rfl,_⟩:=hv;refine ab' (aC' _ ⟨_,_,_,rfl⟩ w2) ?_;rintro e w3 ⟨rfl,hk3⟩;exact ⟨_,rfl,hv'.kp hk3 (by simp),(hk1.tr hk2).tr hk3⟩
theorem mD' (hS:Sub C w) {x:Tr} (hx:Ft Q N x) {h u:Value} (hf:FoV C x h u) :
  CC 116 #[.agg #[h,u]] w (fun e w'=>e = .returned (iV ((row x).length:Int)) /\ Kp [] w w'):=by
 refine oF Tryz.func116 ?_;obtain ⟨hh,hu⟩:=hf;obtain ⟨ah,ch,rfl,hh1,hh2⟩:=hh;have hsz:=hx.nargs;have hl:=hx.len;have huc:=hu;obtain ⟨au,cu,rfl,hu1,hu2⟩:=hu;obtain ⟨ys,hys⟩:∃ ys,argsT x = ys:=⟨_,rfl⟩
 rw [hys] at huc hsz ⊢;refine cO (args:=[_]) 23 [.tmp 2] τok Tryz.func116 ?_;refine new fun b w1 hb hB hs hk1=>?_;refine lb hB ?_;refine lb hB ?_;refine lp τok (σ:=Nat × Nat) (fun q=>[(3,iV (q.2:Int)),(10,.slice au ys.length cu),(11,iV (ys.length:Int)),(12,iV (q.1:Int))])
  (fun q w'=>q.1 <= ys.length /\ q.2 = (row (headT x)).length + q.1 + (rows (ys.take q.1)).length /\ Kp [] w w') (fun q=>ys.length - q.1) (0,(row (headT x)).length) rfl
  ⟨rfl,rfl,rfl,rfl,trivial⟩ ⟨KV _,by simp [rows],hk1⟩ ?_
 rintro ⟨i,t⟩ w2 ⟨hi,ht,hk2⟩;simp only at hi ht;refine ac' (fun g=>?_) (fun g=>?_)
 ·have g:(i:Int) < ys.length:=g
  obtain ⟨y,hy,_⟩:=af' (l:=ys) (k:=i) (by omega);obtain ⟨b',o',c',e,z,hz,az,cz,rfl,_⟩:=huc.get hy;injection e with e1 e2 e3
  subst e1;refine ix i rfl (by omega) ?_;refine ldC (hS.tr hk2) hz ?_;have e1:(rows (ys.take (i + 1))).length = (rows (ys.take i)).length + (row y).length:=by
   rw [al' hy,bz'];simp [rows]
  have e2:(rows (ys.take (i + 1))).length <= (rows ys).length:=by
   have:=bz' (ys.take (i + 1)) (ys.drop (i + 1));rw [List.take_append_drop] at this;rw [this,JK];omega
  refine i6 ?_;refine jK' ((t + (1 + (row y).length):Nat):Int) (by omega) (by omega) (by simp) ?_;refine i6 ?_;exact ⟨(i + 1,t + (1 + (row y).length)),by simp only; omega,rfl,⟨rfl,rfl,rfl,rfl,trivial⟩,by show i + 1 <= ys.length; omega,(show t + (1 + (row y).length) = (row (headT x)).length + (i + 1) + (rows (ys.take (i + 1))).length by omega),hk2⟩
 ·have g:¬ (i:Int) < ys.length:=g
  have hie:i = ys.length:=by omega
  subst hie;rw [JG (KJ _)] at ht;refine ⟨?_,hk2⟩;rw [hsz,ht];show Ending.returned (iV _) = _
  congr 3
  omega
theorem fA' (hQ:Qk Q) (hS:Sub C w) {x:Tr} {ys:List Tr} (hx:Ft Q N x) (hy:∀ y ∈ ys,Ft Q N y) (hn:ys.length <= 100000) {v u:Value} (hv:TmV C x v) (hu:TmsV C ys u) :
  CC 137 #[v,u] w (fun e w'=>(if 4096 < (row (aj' x ys)).length then e = .panicked (dA' 9) else ∃ h u,e = .returned (.agg #[h,u]) /\ IsTm (headT (aj' x ys)) w w' h /\ IsTms (argsT (aj' x ys)) w w' u) /\ Kp [] w w'):=by
 refine oF Tryz.func137 ?_;refine cO (args:=[_,_]) 12 [.cell 4 161] τok Tryz.func137 ?_;refine new fun b w1 hb hB hs hk1=>?_;refine ab' (lv' (hS.tr hk1) hx hy hn hv hu) ?_;rintro e w2 ⟨he,hk2⟩;have k02:=hk1.tr hk2
 by_cases hbig:4096 < (row (aj' x ys)).length
 ·rw [if_pos hbig] at he
  subst he;refine ab' (bm' _ ⟨_,_,_,rfl⟩ 9 (by decide) w2) ?_;rintro e w3 ⟨rfl,hk3⟩;exact ⟨by rw [if_pos hbig],k02.tr hk3⟩
 ·rw [if_neg hbig] at he
  obtain ⟨z,rfl,hz⟩:=he;have hft:=Ft.apply hQ hx hy (by omega);have hz':=hz.up hk1.size;obtain ⟨az,cz,rfl,_⟩:=hz;refine ab' (aC' _ ⟨_,_,_,rfl⟩ w2) ?_;rintro e w3 ⟨rfl,hk3⟩;have hz3:=hz'.kp hk3 (by simp);refine ab' (cD' (New.sub w.heap.size w3) (fun b o v h=>h.2.lt) hft hz3) ?_;rintro e w4 ⟨h,u,rfl,hh,hu,hk4⟩;obtain ⟨ah,ch,rfl,hh1,hh2⟩:=hh;obtain ⟨au,cu,rfl,hu1,hu2⟩:=hu;have k04:=(k02.tr hk3).tr hk4;have k14:=(hk2.tr hk3).tr hk4;refine stN (vs:=[.slice ah (row (headT (aj' x ys))).length ch,.slice au (argsT (aj' x ys)).length cu]) (hB.kp k14 (by simp)) rfl (by simp [Value.oneCell']) fun w5 hB5 hs5 hk5=>?_;refine nl' τok rfl [_,_] rfl (fun j v hj=>hB5.cl hj) ?_;have hle:w.heap.size <= w3.heap.size:=(k02.tr hk3).size;have hlt:∀ x ∈ [b],x < w3.heap.size:=fun x hx=>by
   obtain rfl:x = b:=by simpa using hx
   have:=(hk2.tr hk3).size;omega
  refine ⟨?_,Kp.newSt k04 hb hk5⟩;rw [if_neg hbig];exact ⟨_,_,rfl,(IsTm.kp ⟨ah,ch,rfl,hh1,hh2⟩ hk5 hlt).up hle,(IsTms.kp ⟨au,cu,rfl,hu1,hu2⟩ hk5 hlt).up hle⟩
end
open Go.Wx Cd Tm Lv
def tr (l:List Nd):Tr:=(sk' l).getD (varX 0)
theorem cJ' {x:Tr} (h:Ok .tm x):tr (row x) = x:=by unfold tr; rw [lf' h]; rfl
def cr' (B:BoT) (a:Int):EnT:=B.ents.getD a.toNat default
def ev' (B:BoT) (known:Nat) (a:Int):Bool:=decide (0 <= a) && (decide (a < known) && decide ((cr' B a).kind = 1))
def bR' (B:BoT) (known:Nat) (self:Int) (m:Nd):Bool :=
 if m.op = 3 then decide (m.a <= B.vars)
 else if m.op = 8 then decide (0 <= m.a) && (decide (m.a < known) && decide ((cr' B m.a).kind = 2))
 else if m.op = 9 then decide (m.a = self) || ev' B known m.a
 else if m.op = 11 then ev' B known m.a
 else if m.op = 10 then ev' B known m.a && decide (m.b < (cr' B m.a).ctors.length)
 else true
def aZ' (B:BoT) (known:Nat) (self:Int) (m:Nd):Prop:=bR' B known self m = true
def QB (B:BoT):Nd -> Prop:=aZ' B B.ents.length (-1)
theorem ts' (B:BoT) (k:Nat) (s:Int):Qk (aZ' B k s):=⟨fun m h=>by simp [aZ',bR',h],fun m h=>by
 have:m.op ≠ 3 /\ m.op ≠ 8 /\ m.op ≠ 9 /\ m.op ≠ 11 /\ m.op ≠ 10:=by omega
 simp [aZ',bR',this]⟩
theorem qk (B:BoT):Qk (QB B):=ts' B _ _
structure GoodC (B:BoT) (i:Nat) (np ni:Nat) (c:CtT) (ga go:List Tr):Prop where
 args:c.args = ga.map row
 out:c.out = go.map row
 la:ga.length <= 16
 lo:go.length = ni
 fa:∀ (k:Nat) y,ga[k]? = some y -> Ft (aZ' B i i) ((np + k:Nat):Int) y
 fo:∀ y ∈ go,Ft (aZ' B i i) ((np + ga.length:Nat):Int) y
structure GoodF (B:BoT) (i:Nat) (x:EnT) (s:Tr) (ps qi:List Tr):Prop where
 kind:x.kind = 1
 sort:x.sort = row s
 fs:Ft (aZ' B i (-1)) 0 s
 s2:s.n.op = 2
 params:x.params = ps.map row
 indices:x.indices = qi.map row
 lp:ps.length <= 16
 li:qi.length <= 16
 lc:x.ctors.length <= 16
 fp:∀ (k:Nat) y,ps[k]? = some y -> Ft (aZ' B i (-1)) (k:Int) y
 fi:∀ (k:Nat) y,qi[k]? = some y -> Ft (aZ' B i (-1)) ((ps.length + k:Nat):Int) y
 ct:∀ (k:Nat) c,x.ctors[k]? = some c -> ∃ ga go,GoodC B i ps.length qi.length c ga go
structure tt' (B:BoT) (i:Nat) (x:EnT) (ty bo:Tr):Prop where
 kind:x.kind = 2
 type:x.type = row ty
 body:x.body = row bo
 ft:Ft (aZ' B i (-1)) 0 ty
 fb:Ft (aZ' B i (-1)) 0 bo
structure GoodB (B:BoT):Prop where
 lvl:gR' B.vars B.orders = 0
 len:B.ents.length <= 64
 ent:∀ (i:Nat) x,B.ents[i]? = some x -> (∃ s ps qi,GoodF B i x s ps qi) \/ ∃ ty bo,tt' B i x ty bo
theorem jj' {B:BoT} {k k':Nat} (h:k <= k') {a:Int} (hf:ev' B k a = true):ev' B k' a = true:=by
 simp only [ev',Bool.and_eq_true,decide_eq_true_eq] at hf ⊢;exact ⟨hf.1,by omega,hf.2.2⟩
theorem kn' {B:BoT} {k k':Nat} {s s':Int} (h:k <= k') (hs:s = s' \/ ev' B k' s = true) {m:Nd} (hm:aZ' B k s m):aZ' B k' s' m:=by
 unfold aZ' bR' at hm ⊢;split at hm
 ·rename_i g; rw [if_pos g]; exact hm
 rename_i g; rw [if_neg g];split at hm
 ·rename_i g; rw [if_pos g]
  simp only [Bool.and_eq_true,decide_eq_true_eq] at hm ⊢;exact ⟨hm.1,by omega,hm.2.2⟩
 rename_i g; rw [if_neg g];split at hm
 ·rename_i g; rw [if_pos g]
  simp only [Bool.or_eq_true,decide_eq_true_eq] at hm ⊢;rcases hm with hm | hm
  ·rcases hs with hs | hs
   ·exact .inl (by omega)
   ·exact .inr (by rw [hm]; exact hs)
  ·exact .inr (jj' h hm)
 rename_i g; rw [if_neg g];split at hm
 ·rename_i g; rw [if_pos g]; exact jj' h hm
 rename_i g; rw [if_neg g];split at hm
 ·rename_i g; rw [if_pos g]
  simp only [Bool.and_eq_true,decide_eq_true_eq] at hm ⊢;exact ⟨jj' h hm.1,hm.2⟩
 ·rename_i g; rw [if_neg g]
theorem dV' {B:BoT} {i:Nat} (hi:i <= B.ents.length) {m:Nd} (hm:aZ' B i (-1) m):QB B m:=kn' hi (.inl rfl) hm
theorem ko' {B:BoT} {i:Nat} {x:EnT} (hi:B.ents[i]? = some x) (hk:x.kind = 1) {m:Nd} (hm:aZ' B i i m):QB B m:=by
 have hl:=ai' hi;refine kn' (by omega) (.inr ?_) hm;simp [ev',cr',hi,hk];exact hl
section
variable {B:BoT}
theorem fB' {i:Nat} {x:EnT} (hi:B.ents[i]? = some x):cr' B (i:Int) = x:=by simp [cr',hi]
theorem GoodB.fam (hB:GoodB B) {k:Nat} {a:Int} (h:ev' B k a = true) (hk:k <= B.ents.length):∃ (i:Nat) (x:EnT) (s:Tr) (ps qi:List Tr),a = (i:Int) /\ i < k /\ B.ents[i]? = some x /\ cr' B a = x /\ GoodF B i x s ps qi:=by
 simp only [ev',Bool.and_eq_true,decide_eq_true_eq] at h;obtain ⟨h1,h2,h3⟩:=h;obtain ⟨i,rfl⟩:∃ i:Nat,a = (i:Int):=⟨a.toNat,by omega⟩
 obtain ⟨x,hx,_⟩:=af' (l:=B.ents) (k:=i) (by omega);rw [fB' hx] at h3 ⊢;rcases hB.ent i x hx with ⟨s,ps,qi,hf⟩ | ⟨ty,bo,hd⟩
 ·exact ⟨i,x,s,ps,qi,rfl,by omega,hx,rfl,hf⟩
 ·have:=hd.kind
  omega
theorem GoodB.dfn (hB:GoodB B) {m:Nd} (h:QB B m) (h8:m.op = 8):∃ (i:Nat) (x:EnT) (ty bo:Tr),m.a = (i:Int) /\ B.ents[i]? = some x /\ cr' B m.a = x /\ tt' B i x ty bo:=by
 simp only [QB,aZ',bR',h8] at h;simp at h;obtain ⟨h1,h2,h3⟩:=h;obtain ⟨i,hi⟩:∃ i:Nat,m.a = (i:Int):=⟨m.a.toNat,by omega⟩
 rw [hi] at h3 h2 ⊢;obtain ⟨x,hx,_⟩:=af' (l:=B.ents) (k:=i) (by omega);rw [fB' hx] at h3 ⊢;rcases hB.ent i x hx with ⟨s,ps,qi,hf⟩ | ⟨ty,bo,hd⟩
 ·have:=hf.kind
  omega
 ·exact ⟨i,x,ty,bo,rfl,hx,rfl,hd⟩
theorem jk' {m:Nd} (h:QB B m) (h1:m.op = 10 \/ m.op = 11):ev' B B.ents.length m.a = true:=by
 rcases h1 with h1 | h1
 ·simp [QB,aZ',bR',h1] at h
  exact h.1
 ·simp [QB,aZ',bR',h1] at h
  exact h
theorem re' {m:Nd} (h:QB B m) (h1:m.op = 9) (h0:0 <= m.a):ev' B B.ents.length m.a = true:=by
 simp [QB,aZ',bR',h1] at h;rcases h with h | h
 ·omega
 ·exact h
theorem mE' {m:Nd} (h:QB B m) (h1:m.op = 10):m.b < (cr' B m.a).ctors.length:=by
 simp [QB,aZ',bR',h1] at h;exact h.2
theorem GoodF.up_p (hB:GoodB B) {i:Nat} {x:EnT} {s:Tr} {ps qi:List Tr} (hi:B.ents[i]? = some x) (h:GoodF B i x s ps qi) {k:Nat} {y:Tr} (hy:ps[k]? = some y):Ft (QB B) (k:Int) y :=
 (h.fp k y hy).wk fun m hm=>dV' (Nat.le_of_lt (ai' hi)) hm
theorem GoodF.up_i (hB:GoodB B) {i:Nat} {x:EnT} {s:Tr} {ps qi:List Tr} (hi:B.ents[i]? = some x) (h:GoodF B i x s ps qi) {k:Nat} {y:Tr} (hy:qi[k]? = some y):Ft (QB B) ((ps.length + k:Nat):Int) y :=
 (h.fi k y hy).wk fun m hm=>dV' (Nat.le_of_lt (ai' hi)) hm
theorem GoodC.up_a {i:Nat} {x:EnT} (hi:B.ents[i]? = some x) (hk:x.kind = 1) {np ni:Nat} {c:CtT} {ga go:List Tr} (h:GoodC B i np ni c ga go) {k:Nat} {y:Tr} (hy:ga[k]? = some y):Ft (QB B) ((np + k:Nat):Int) y :=
 (h.fa k y hy).wk fun m hm=>ko' hi hk hm
theorem GoodC.up_o {i:Nat} {x:EnT} (hi:B.ents[i]? = some x) (hk:x.kind = 1) {np ni:Nat} {c:CtT} {ga go:List Tr} (h:GoodC B i np ni c ga go) {y:Tr} (hy:y ∈ go):Ft (QB B) ((np + ga.length:Nat):Int) y :=
 (h.fo y hy).wk fun m hm=>ko' hi hk hm
end
abbrev Ctx:=List (Tr × Option Tr)
def nM':Option Tr -> List Nd
 | none=>[]
 | some x=>row x
def bdR (q:Tr × Option Tr):List Nd × List Nd:=(row q.1,nM' q.2)
def CxOk (B:BoT) (c:Ctx):Prop:=∀ (i:Nat) q,c[i]? = some q -> Ft (QB B) (i:Int) q.1 /\ ∀ x,q.2 = some x -> Ft (QB B) (i:Int) x
theorem CxOk.snoc {B:BoT} {c:Ctx} (h:CxOk B c) {t:Tr} {v:Option Tr} (ht:Ft (QB B) (c.length:Int) t) (hv:∀ x,v = some x -> Ft (QB B) (c.length:Int) x):CxOk B (c ++ [(t,v)]):=fun i q hq=>by
 by_cases hi:i < c.length
 ·rw [List.getElem?_append_left hi] at hq
  exact h i q hq
 ·rw [List.getElem?_append_right (by omega)] at hq
  have e:i - c.length = 0:=by
   have:=ai' hq;simp at this;omega
  rw [e] at hq;simp only [List.getElem?_cons_zero,Option.some.injEq] at hq;subst hq;rw [show i = c.length by omega];exact ⟨ht,hv⟩
def ge' (c:Ctx) (a:Int):Tr × Option Tr:=c.getD (c.length - 1 - a.toNat) (varX 0,none)
theorem cf' {c:Ctx} {a:Int} (h0:0 <= a) (h1:a < c.length):c[c.length - 1 - a.toNat]? = some (ge' c a):=by
 unfold ge';rw [List.getD_eq_getElem?_getD];obtain ⟨x,hx,_⟩:=af' (l:=c) (k:=c.length - 1 - a.toNat) (by omega);rw [hx]
 rfl
abbrev MacV (v1 v2 v3 v4:Value) (C:Mem) (w:World) (bm:Nat) (B:BoT) (c:Ctx) (n:Nat):Prop:=Bk w.heap bm [iV B.vars,v1,v2,iV B.nat,v3,v4,iV (n:Int)] 181 /\ SV rOr C B.orders v1 /\ SV rEn C B.ents v2 /\ SV rPr C B.prims v3 /\ SV rBd C (c.map bdR) v4
def MacC (C:Mem) (w:World) (bm:Nat) (B:BoT) (c:Ctx) (n:Nat):Prop:=∃ v1 v2 v3 v4,MacV v1 v2 v3 v4 C w bm B c n
def nPar (B:BoT) (a:Int):Nat:=(cr' B a).params.length
def ctD (B:BoT) (a b:Int):CtT:=(cr' B a).ctors.getD b.toNat default
def gf' (B:BoT) (n:Nd) (s:Tr):Bool :=
 let c:=(headT s).n
 decide (c.op = 10) && (decide (c.a = n.a) && (decide (c.b < n.b) && decide ((argsT s).length = nPar B n.a + (ctD B n.a c.b).args.length)))
theorem TmV.hd {C:Mem} {x:Tr} {v:Value} (h:TmV C x v):∃ b o c,v = .slice (some ⟨b,o,none⟩) (row x).length c /\ I64 x.n.op /\ I64 x.n.a /\ I64 x.n.b /\
  ∀ j u,[iV x.n.op,iV x.n.a,iV x.n.b][j]? = some u -> C b (o + j) u:=by
 obtain ⟨n,ks⟩:=x;obtain ⟨b,o,c,h1,h2,h3,h4,h5⟩:=h.nd (i:=0) (n:=n) (by simp [row]);exact ⟨b,o,c,h1,h2,h3,h4,fun j u hu=>by simpa using h5 j u hu⟩
theorem _root_.Tm.Ok.pl {x:Tr} (h:Ok .tm x):ah' x.n = true:=by
 obtain ⟨n,ks⟩:=x;exact h.tm.1
theorem Ft.node' {Q:Nd -> Prop} {N:Int} {x:Tr} (h:Ft Q N x):Q x.n:=by
 obtain ⟨n,ks⟩:=x;exact h.node
section
variable {C:Mem} {w:World} {N:Int} {B:BoT} {cx:Ctx} {bm fu:Nat}
theorem tu' (hB:GoodB B) (hS:Sub C w) (hM:MacC C w bm B cx fu) {n:Nd} (hn:QB B n) (h11:n.op = 11) {s:Tr} (hs:Ft (QB B) N s) {h u:Value} (hf:FoV C s h u) :
  CC 136 #[pt bm,ndV n,.agg #[h,u]] w (fun e w'=>e = .returned (.bool (gf' B n s)) /\ Kp [] w w'):=by
 refine oF Tryz.func136 ?_;obtain ⟨v1,v2,v3,v4,hMb,_,hEn,_,_⟩:=hM;obtain ⟨hh,hu⟩:=hf;obtain ⟨i,x,so,ps,qi,hna,hi,hx,hxD,hGF⟩:=hB.fam (jk' hn (.inr h11)) (KJ _);obtain ⟨be,oe,ce,rfl,hat⟩:=hEn.at hx;obtain ⟨e1,e2,e3,e4,e5,e6,hcs,hki,hso,hpa,hin,hct,hty,hbo⟩:=eB' hat;obtain ⟨bh,oh,ch,rfl,hi1,hi2,hi3,hhc⟩:=hh.hd;obtain ⟨ap,cp,rfl,_,_⟩:=hpa;obtain ⟨au,cu,rfl,hu1,hu2⟩:=hu;obtain ⟨RES,hRES⟩:∃ r,gf' B n s = r:=⟨_,rfl⟩
 rw [hRES];refine ee' (args:=[_,_,_]) 57 [.tmp 6] Tryz.func136 rfl rfl rfl (Nat.le_of_ble_eq_true rfl) ?_;refine bi' τok ?_;refine new fun b4 w1 hb4 h4 hs1 hk1=>?_;refine new fun b5 w2 hb5 h5 hs2 hk2=>?_;have h4:Bk w1.heap b4 [iV n.op,iV n.a,iV n.b] 45:=h4;have h5:Bk w2.heap b5 [.slice (some ⟨bh,oh,none⟩) (row (headT s)).length ch,.slice au (argsT s).length cu] 161:=h5;have h4:=h4.kp hk2 (by simp);have k02:=hk1.tr hk2;have hM2:=hMb.kp k02 (by simp);have hS2:=hS.tr k02;have hone:∀ v ∈ [iV x.kind,e1,.slice ap x.params.length cp,e3,e4,e5,e6],v.oneCell' = true:=fun v hv=>by
  simp at hv;rcases hv with rfl | rfl | rfl | rfl | rfl | rfl | rfl
  ·rfl
  ·exact hso.one
  ·rfl
  ·exact hin.one
  ·exact hct.one
  ·exact hty.one
  ·exact hbo.one
 refine fM' τok (σ:=Nat × Nat) (fun q=>[(4,pt b4),(5,pt b5),(7,pt q.1),(8,pt q.2)])
  (fun q w6=>Bk w6.heap q.1 [iV (headT s).n.op,iV (headT s).n.a,iV (headT s).n.b] 45 /\ Bk w6.heap q.2 [iV x.kind,e1,.slice ap x.params.length cp,e3,e4,e5,e6] 55 /\ Kp [] w2 w6) ?_ ?_
 refine as' τok (fun z=>Kp [] w2 z) ?_;refine rV τok (rg 0 13) 4 (mR 17 13) (kQd w2) ?_
 (repeat first | refine ldC ‹Sub _ _› (by assumption) ?_ | refine ld (Cl.cell (by first | assumption | exact Bk.cl (by assumption) rfl)) ?_ | refine ldK (by first | assumption | exact Bk.cl (by assumption) rfl | exact ‹Sub _ _› _ _ _ (by assumption)) ?_)
 refine ix 0 rfl (ag' _) ?_;refine fN' [iV (headT s).n.op,iV (headT s).n.a,iV (headT s).n.b] rfl (fun z hz j v hj=>(hS2 _ _ _ (hhc j v hj)).kp hz (by simp)) ?_
 (repeat first | refine ldC ‹Sub _ _› (by assumption) ?_ | refine ld (Cl.cell (by first | assumption | exact Bk.cl (by assumption) rfl)) ?_ | refine ldK (by first | assumption | exact Bk.cl (by assumption) rfl | exact ‹Sub _ _› _ _ _ (by assumption)) ?_)
 refine ix i hna (ai' hx) ?_;refine fN' _ rfl (fun z hz j v hj=>(hS2 _ _ _ (hcs j v hj)).kp hz (by simp)) ?_;refine gd' τok 13 14 3 (mR 17 14) (mB 17 [13,15,16]) rfl rfl rfl rfl rfl (by kernel_rfl) ?_ ?_
 ·refine new fun b7 w3 hb7 h7 hs3 hk3=>?_
  refine ⟨.inl hk3.rd,?_⟩;refine nV τok 14 2 (mR 17 15) ?_;refine new fun b8 w4 hb8 h8 hs4 hk4=>?_;have h7:=h7.kp hk4 (by simp);have hlt:w2.heap.size <= b7:=by rw [hb7]; exact KJ _
  have hlt8:w2.heap.size <= b8:=by have:=hk3.size; rw [hb8]; exact this
  have hne:b7 ≠ b8:=by omega
  have k24:Kp [] w2 w4:=hk3.rd.tr hk4;refine ⟨.inl k24,?_⟩;refine nV τok 15 1 (mR 17 16) ?_;refine stN (vs:=[iV (headT s).n.op,iV (headT s).n.a,iV (headT s).n.b]) h7 rfl (by simp [Value.oneCell']) fun w5 h7' hs5 hk5=>?_;have k25:Kp [] w2 w5:=k24.trans hk5 (fun x hx hl=>by
   obtain rfl:x = b7:=by simpa using hx
   omega)
  refine ⟨.inl k25,?_⟩;refine nV τok 16 0 (mR 17 17) ?_;refine stN (vs:=[iV x.kind,e1,.slice ap x.params.length cp,e3,e4,e5,e6]) (h8.kp hk5 (by simp; omega)) rfl hone fun w6 h8' hs6 hk6=>?_;refine ⟨.inr (by kernel_rfl),?_⟩;refine dV ?_;have h7:=h7'.kp hk6 (by simp; omega);have k26:Kp [] w2 w6:=k25.trans hk6 (fun x hx hl=>by
   obtain rfl:x = b8:=by simpa using hx
   omega)
  exact ⟨(b7,b8),rfl,⟨rfl,rfl,rfl,rfl,trivial⟩,h7,h8',k26⟩
 ·refine new fun b8 w3 hb8 h8 hs3 hk3=>?_
  refine ⟨.inl hk3.rd,?_⟩;refine nV τok 13 2 (mR 17 15) ?_;refine new fun b7 w4 hb7 h7 hs4 hk4=>?_;have h8:=h8.kp hk4 (by simp);have hlt:w2.heap.size <= b7:=by have:=hk3.size; rw [hb7]; exact this
  have hlt8:w2.heap.size <= b8:=by rw [hb8]; exact KJ _
  have hne:b7 ≠ b8:=by omega
  have k24:Kp [] w2 w4:=hk3.rd.tr hk4;refine ⟨.inl k24,?_⟩;refine nV τok 15 1 (mR 17 16) ?_;refine stN (vs:=[iV (headT s).n.op,iV (headT s).n.a,iV (headT s).n.b]) h7 rfl (by simp [Value.oneCell']) fun w5 h7' hs5 hk5=>?_;have k25:Kp [] w2 w5:=k24.trans hk5 (fun x hx hl=>by
   obtain rfl:x = b7:=by simpa using hx
   omega)
  refine ⟨.inl k25,?_⟩;refine nV τok 16 0 (mR 17 17) ?_;refine stN (vs:=[iV x.kind,e1,.slice ap x.params.length cp,e3,e4,e5,e6]) (h8.kp hk5 (by simp; omega)) rfl hone fun w6 h8' hs6 hk6=>?_;refine ⟨.inr (by kernel_rfl),?_⟩;refine dV ?_;have h7:=h7'.kp hk6 (by simp; omega);have k26:Kp [] w2 w6:=k25.trans hk6 (fun x hx hl=>by
   obtain rfl:x = b8:=by simpa using hx
   omega)
  exact ⟨(b7,b8),rfl,⟨rfl,rfl,rfl,rfl,trivial⟩,h7,h8',k26⟩
 rintro ⟨b7,b8⟩ w6 ⟨h7,h8,k26⟩;simp only at h7 h8;have h4:=h4.kp k26 (by simp);have h5:=h5.kp k26 (by simp);have hS6:=hS2.tr k26;refine bi' τok ?_;refine as' τok (fun z=>Kp [] w6 z) ?_;refine rV τok (rg 0 36) 0 (mR 36 36) (kQd w6) ?_;refine lk h7 ?_;refine ac' (fun g1=>?_) (fun g1=>?_)
 ·have g1:(headT s).n.op = 10:=g1
  refine lk h7 ?_;refine lk h4 ?_;refine ac' (fun g2=>?_) (fun g2=>?_)
  ·have g2:(headT s).n.a = n.a:=g2
   refine lk h7 ?_;refine lk h4 ?_;refine ac' (fun g3=>?_) (fun g3=>?_)
   ·have g3:(headT s).n.b < n.b:=g3
    have hq:=hs.head.node';have hcb:=mE' hq g1;rw [g2,hxD] at hcb;have hpb:=ba' hs.head.ok.pl;obtain ⟨k,hk⟩:∃ k:Nat,(headT s).n.b = (k:Int):=⟨(headT s).n.b.toNat,by omega⟩
    obtain ⟨c,hc,_⟩:=af' (l:=x.ctors) (k:=k) (by omega);obtain ⟨ga,go,hgc⟩:=hGF.ct k c hc;have hctD:ctD B n.a (headT s).n.b = c:=by simp [ctD,hxD,hk,hc]
    obtain ⟨bc,oc,cc,rfl,hca⟩:=hct.at hc;obtain ⟨va,vo,hcc,hva,_⟩:=jg' hca;obtain ⟨aa,ca,rfl,_,_⟩:=hva;have hlp:x.params.length <= 16:=by rw [hGF.params]; simp; exact hGF.lp
    have hla:c.args.length <= 16:=by rw [hgc.args]; simp; exact hgc.la
    refine lk h5 ?_;refine lk h8 ?_;refine lk h8 ?_;refine lk h7 ?_;refine ix k hk (ai' hc) ?_;refine ldK (hS6 _ _ _ (hcc 0 _ rfl)) ?_;refine i6 ?_;refine dV ?_;refine fY' τok ⟨?_,(k02.tr k26).dr _⟩;rw [<- hRES];unfold gf' nPar;simp only [hctD,hxD];rw [decide_eq_true g1,decide_eq_true g2,decide_eq_true g3];show Ending.returned (Value.bool (decide _)) = _;simp only [Bool.true_and]
    congr 3
    apply propext;omega
   ·have g3:¬ (headT s).n.b < n.b:=g3
    refine dV ?_;refine fY' τok ⟨?_,(k02.tr k26).dr _⟩;rw [<- hRES];simp [gf',g3]
    rfl
  ·have g2:¬ (headT s).n.a = n.a:=g2
   refine dV ?_;refine fY' τok ⟨?_,(k02.tr k26).dr _⟩;rw [<- hRES];simp [gf',g2]
   rfl
 ·have g1:¬ (headT s).n.op = 10:=g1
  refine dV ?_;refine fY' τok ⟨?_,(k02.tr k26).dr _⟩;rw [<- hRES];simp [gf',g1]
  rfl
end
section
variable {C:Mem} {w:World} {Q:Nd -> Prop} {N:Int} {x y:Tr} {v:Value} {p q:List Nd}
theorem cP' (hS:Sub C w) (hv:TmV C x v) (hl:(row x).length <= 4096) (e:row x = p ++ (row y ++ q)) (hy:Ok .tm y) {i:Int} (hi:i = (p.length:Int)) :
  CC 22 #[v,iV i] w (fun e w'=>e = .returned (iV ((p.length + (row y).length:Nat):Int)) /\ Kp [] w w'):=by
 obtain ⟨a,c,rfl,h2,h3⟩:=hv;subst hi;have hpl:p.length <= (row x).length:=by rw [e]; simp
 have h:=iU' (row x) a c h2 (row x).length w hS p.length (by omega) (by omega) (fun _=>by omega);have hend:qF' (row x) p.length = ((p.length + (row y).length:Nat):Int):=by
  rw [cR',e,lg' hy p q]
  rfl
 rw [hend] at h;exact h
theorem TmV.cut (h:TmV C x v) (e:row x = p ++ (row y ++ q)):∃ a c,v = .slice a (row x).length c /\ p.length + (row y).length <= (row x).length /\ (row x).length <= c /\ ∃ v',sliced a p.length (p.length + (row y).length) c 3 = v' /\ TmV C y v':=by
 obtain ⟨a,c,rfl,h2,h3⟩:=h;have hy:=ag' y;have hl:(row x).length = p.length + ((row y).length + q.length):=by rw [e]; simp
 refine ⟨a,c,rfl,by omega,h3,?_⟩;obtain ⟨b,o,rfl,hc⟩:=h2.at (i:=0) (by omega)
 refine ⟨_,eT' (by omega),some ⟨b,o + p.length * 3,none⟩,c - p.length,by rw [Nat.add_sub_cancel_left],⟨by have:=h2.1; omega,.inr ⟨b,o + p.length * 3,rfl,fun i n hn=>?_⟩⟩,by omega⟩;have hil:=ai' hn;have:=hc (p.length + i) n (by rw [e,List.getElem?_append_right (by omega),Nat.add_sub_cancel_left,List.getElem?_append_left hil]; exact hn);rw [show o + p.length * 3 + i * rNd.sz = o + (p.length + i) * rNd.sz by
  show o + p.length * 3 + i * 3 = o + (p.length + i) * 3;omega]
 exact this
end
theorem iv' {ks:List Tr} {k:Nat} {f:Tr} (h:ks[k]? = some f):rows ks = rows (ks.take k) ++ (row f ++ rows (ks.drop (k + 1))):=by
 obtain ⟨g,hg,hd⟩:=af' (ai' h);rw [h] at hg;obtain rfl:=JB hg;have:=bz' (ks.take k) (ks.drop k);rw [List.take_append_drop,hd] at this;rw [this]
 rfl
theorem fQ' {x:Tr} (hx:Ok .tm x) (h12:x.n.op = 12) {k:Nat} {f:Tr} (hf:x.ks[k]? = some f):∃ ty bo,f = .mk f.n [ty,bo] /\ f.n.op = 13 /\ ah' f.n = true /\ Ok .tm ty /\ Ok .tm bo /\
  row x = (x.n :: rows (x.ks.take k)) ++ (row f ++ rows (x.ks.drop (k + 1))) /\ (row x)[1 + (rows (x.ks.take k)).length]? = some f.n /\
  row x = (x.n :: (rows (x.ks.take k) ++ [f.n])) ++ (row ty ++ (row bo ++ rows (x.ks.drop (k + 1)))) /\ row x = (x.n :: (rows (x.ks.take k) ++ (f.n :: row ty))) ++ (row bo ++ rows (x.ks.drop (k + 1))):=by
 obtain ⟨n,ks⟩:=x;simp only [Tr.n,Tr.ks] at h12 hf ⊢;obtain ⟨hc,hok,hi⟩:=hx.kids;have hfo:Ok .fn f:=⟨by
  have:=eA' ks 0 k f hok hf
  rwa [show nx Md.tm n (0 + k) = .fn by simp [nx,h12]] at this,dy' ks k f hi hf⟩
 obtain ⟨g,ty,bo,rfl,h13,hgp,hty,hbo⟩:=hfo.fn;have hs:=iv' hf;refine ⟨ty,bo,rfl,h13,hgp,hty,hbo,by simp [row,hs],?_,by simp [row,hs,rows],by simp [row,hs,rows]⟩;show (n :: rows ks)[1 + _]? = _;rw [Nat.add_comm,List.getElem?_cons_succ,hs,List.getElem?_append_right (KJ _),Nat.sub_self]
 rfl
theorem aG' {x:Tr} (hx:Ok .tm x) (h12:x.n.op = 12):(x.ks.length:Int) = x.n.b /\ 1 <= x.n.b /\ x.n.b <= 4 /\ 0 <= x.n.a /\ x.n.a < x.n.b:=by
 obtain ⟨n,ks⟩:=x;simp only [Tr.n,Tr.ks] at h12 ⊢;obtain ⟨hc,hok,hi⟩:=hx.kids;obtain ⟨hp,_,_,hk⟩:=bG' hc;have h2:n.op ≠ 2:=by omega
 have hpp:inR n.b 1 4 = true /\ inR n.a 0 (n.b - 1) = true:=by simpa [ah',h12] using hp
 have h1:=aF'.1 hpp.1;have h3:=aF'.1 hpp.2;rw [if_neg h2] at hk;simp [ar',h12] at hk;omega
def aD' (x:Tr):Int:=((x.ks[x.n.a.toNat]?).map fun f=>f.n.a).getD 0
theorem cW' {x:Tr} (hx:Ok .tm x) (h12:x.n.op = 12):∃ f,x.ks[x.n.a.toNat]? = some f /\ aD' x = f.n.a /\ 0 <= aD' x /\ aD' x <= 15:=by
 have hl:=aG' hx h12;obtain ⟨f,hf,_⟩:=af' (l:=x.ks) (k:=x.n.a.toNat) (by omega);obtain ⟨ty,bo,_,h13,hp,_⟩:=fQ' hx h12 hf;have:aD' x = f.n.a:=by simp [aD',hf]
 have hpp:inR f.n.a 0 15 = true:=by
  have:inR f.n.a 0 15 = true /\ f.n.b = 0:=by simpa [ah',h13] using hp
  exact this.1
 have:=aF'.1 hpp;exact ⟨f,hf,by assumption,by omega,by omega⟩
section
variable {C:Mem} {w:World} {Q:Nd -> Prop} {N:Int} {x y:Tr} {v:Value} {p q:List Nd}
theorem fC' (hS:Sub C w) (hx:Ft Q N x) (h12:x.n.op = 12) (hv:TmV C x v) :
  CC 135 #[v] w (fun e w'=>e = .returned (iV (aD' x)) /\ Kp [] w w'):=by
 refine oF Tryz.func135 ?_;have hl:=aG' hx.ok h12;have hlen:=hx.len;have hvv:=hv;obtain ⟨f,hf,hpl,hp0,hp1⟩:=cW' hx.ok h12;obtain ⟨b,o,c,rfl,_,_,_,hc⟩:=hv.hd;obtain ⟨k,hk⟩:∃ k:Nat,x.n.a = (k:Int):=⟨x.n.a.toNat,by omega⟩
 rw [hk,Int.toNat_natCast] at hf;have hsub:∀ i,i <= k -> (rows (x.ks.take i)).length < (row x).length:=fun i hi=>by
  obtain ⟨g,hg,_⟩:=af' (l:=x.ks) (k:=i) (by omega);obtain ⟨ty,bo,_,_,_,_,_,_,hat,_⟩:=fQ' hx.ok h12 hg;have:=ai' hat;omega
 refine cO (args:=[_]) 22 [.tmp 2] τok Tryz.func135 ?_;refine ix 0 rfl (ag' _) ?_;refine ldC hS (by simpa using hc 1 _ rfl) ?_;refine lp τok (σ:=Nat) (fun i=>[(0,.slice (some ⟨b,o,none⟩) (row x).length c),(3,iV ((1 + (rows (x.ks.take i)).length:Nat):Int)),(7,iV x.n.a),(8,iV (i:Int))])
  (fun i w'=>i <= k /\ Kp [] w w') (fun i=>k - i) 0 rfl ⟨rfl,rfl,rfl,rfl,trivial⟩ ⟨KV _,Kp.refl _ _⟩ ?_
 rintro i w1 ⟨hi,hk1⟩;have hsi:=hsub i hi;refine ac' (fun g=>?_) (fun g=>?_)
 ·have g:(i:Int) < x.n.a:=g
  obtain ⟨h,hh,_⟩:=af' (l:=x.ks) (k:=i) (by omega);obtain ⟨ty,bo,hhe,h13,_,hty,hbo,_,_,e1,e2⟩:=fQ' hx.ok h12 hh;have hs1:=hsub (i + 1) (by omega);have es:(rows (x.ks.take (i + 1))).length = (rows (x.ks.take i)).length + (1 + ((row ty).length + (row bo).length)):=by
   rw [al' hh,bz',JK];rw [hhe];simp [rows,row];omega
  refine i6 ?_;refine ab' (cP' (hS.tr hk1) hvv hlen e1 hty (i:=((1 + (rows (x.ks.take i)).length:Nat):Int) + 1) (by simp; omega)) ?_;rintro e w2 ⟨rfl,hk2⟩;refine ab' (cP' (hS.tr (hk1.tr hk2)) hvv hlen e2 hbo (by simp; omega)) ?_;rintro e w3 ⟨rfl,hk3⟩;refine i6 ?_;refine ⟨i + 1,by omega,rfl,⟨rfl,?_,rfl,rfl,trivial⟩,by omega,(hk1.tr hk2).tr hk3⟩;show some (iV _) = _
  congr 3
  rw [es];simp;omega
 ·have g:¬ (i:Int) < x.n.a:=g
  have hik:i = k:=by omega
  subst hik;obtain ⟨ty,bo,_,h13,_,_,_,_,hat,_⟩:=fQ' hx.ok h12 hf;obtain ⟨b',o',c',hve,_,_,_,hcc⟩:=hvv.nd hat;injection hve with q1 q2 q3
  injection q1 with q1
  injection q1 with q4 q5 q6
  subst q4 q5 q3;refine ix (1 + (rows (x.ks.take i)).length) rfl (ai' hat) ?_;refine ldC (hS.tr hk1) (hcc 1 _ rfl) ?_;rw [hpl];exact ⟨rfl,hk1⟩
end
def kidD (x:Tr) (k:Nat):Tr:=(kidsT x).getD k (varX 0)
def bT' (B:BoT) (cx:Ctx) (x:Tr):Bool :=
 let h:=headT x
 if h.n.op = 5 then decide (0 < (argsT x).length)
 else if h.n.op = 7 \/ h.n.op = 8 then true
 else if h.n.op = 1 then (ge' cx h.n.a).2.isSome
 else if h.n.op = 11 then gf' B h.n (kidD h 1)
 else if h.n.op = 12 then decide (aD' h < (argsT x).length) && decide ((headT ((argsT x).getD (aD' h).toNat (varX 0))).n.op = 10)
 else false
theorem rf' (o:Option Tr):0 < (nM' o).length ↔ o.isSome = true:=by
 cases o with
 | none=>simp [nM']
 | some x =>
  have:=ag' x;simp [nM',this]
theorem aA' {x:Tr} (hx:Ok .tm x) (h11:x.n.op = 11):kidsT x = x.ks /\ (x.ks.length:Int) = 2 + x.n.b /\ 0 <= x.n.b /\ x.n.b <= 16:=by
 obtain ⟨n,ks⟩:=x;simp only [Tr.n,Tr.ks] at h11 ⊢;obtain ⟨hc,hok,hi⟩:=hx.kids;obtain ⟨hp,_,_,hk⟩:=bG' hc;have h2:n.op ≠ 2:=by omega
 have h12:n.op ≠ 12:=by omega
 have hpp:inR n.b 0 16 = true:=by
  have:inR n.a 0 63 = true /\ inR n.b 0 16 = true:=by simpa [ah',h11] using hp
  exact this.2
 have h1:=aF'.1 hpp;rw [if_neg h2] at hk;simp [ar',h11] at hk;exact ⟨by simp [kidsT,h2,h12],by omega,by omega,by omega⟩
theorem Ft.kidD {Q:Nd -> Prop} {N:Int} {x:Tr} (h:Ft Q N x) {k:Nat} (hk:k < (kidsT x).length):(kidsT x)[k]? = some (kidD x k) /\ Ft Q (N + kb x.n k) (kidD x k):=by
 obtain ⟨y,hy,_⟩:=af' (l:=kidsT x) (k:=k) hk;have e:Go.Proofs.YtpealcfjbcpoiaaGreat.kidD x k = y:=by simp [Go.Proofs.YtpealcfjbcpoiaaGreat.kidD,hy]
 rw [e];refine ⟨hy,?_⟩;obtain ⟨n,ks⟩:=x;exact h.kid hy
section
variable {C:Mem} {w:World} {B:BoT} {cx:Ctx} {bm fu:Nat}
theorem MacC.up {w':World} (h:MacC C w bm B cx fu) (k:Kp [] w w') (hS:Sub C w):MacC (Im [] w') w' bm B cx fu:=by
 obtain ⟨v1,v2,v3,v4,h1,h2,h3,h4,h5⟩:=h;have hc:∀ b o v,C b o v -> Im [] w' b o v:=fun b o v h=>⟨(hS _ _ _ h).kp k (by simp),by simp⟩
 exact ⟨v1,v2,v3,v4,h1.kp k (by simp),h2.mono hc,h3.mono hc,h4.mono hc,h5.mono hc⟩
theorem rg' (hB:GoodB B) (hS:Sub C w) (hold:∀ b o v,C b o v -> b < w.heap.size) (hM:MacC C w bm B cx fu) (hcx:cx.length <= 100000) {x:Tr} (hx:Ft (QB B) (cx.length:Int) x) {h u:Value} (hf:FoV C x h u) :
  CC 117 #[pt bm,.agg #[h,u]] w (fun e w'=>e = .returned (.bool (bT' B cx x)) /\ Kp [] w w'):=by
 refine oF Tryz.func117 ?_;have hMM:=hM;obtain ⟨v1,v2,v3,v4,hMb,_,_,_,hcv⟩:=hM;obtain ⟨hh,hu⟩:=hf;have hhh:=hh;have huu:=hu;obtain ⟨n,hnE⟩:∃ n,(headT x).n = n:=⟨_,rfl⟩
 obtain ⟨bh,oh,ch,rfl,hi1,hi2,hi3,hhc⟩:=hh.hd;rw [hnE] at hhc;obtain ⟨au,cu,rfl,hu1,hu2⟩:=hu;have hfew:=hx.few;obtain ⟨RES,hRES⟩:∃ r,bT' B cx x = r:=⟨_,rfl⟩
 have hRES':=hRES;rw [hRES];unfold bT' at hRES;simp only [hnE] at hRES;have hhF:=hx.head;refine cO (args:=[_,_]) 76 [.tmp 4] τok Tryz.func117 ?_;refine new fun b3 w1 hb3 h3 hs1 hk1=>?_;have h3:Bk w1.heap b3 [.slice (some ⟨bh,oh,none⟩) (row (headT x)).length ch,.slice au (argsT x).length cu] 161:=h3;have hS1:=hS.tr hk1;refine lb h3 ?_;refine ix 0 rfl (ag' _) ?_;refine ldN [iV n.op,iV n.a,iV n.b] rfl (fun j v hj=>hS1 _ _ _ (hhc j v hj)) ?_;refine new fun b5 w2 hb5 h5 hs2 hk2=>?_;refine stN (vs:=[iV n.op,iV n.a,iV n.b]) h5 rfl (by simp [Value.oneCell']) fun w3 h5 hs3 hk3=>?_;have k13:=hk2.newSt hb5 hk3;have k03:=hk1.tr k13;have hS3:=hS.tr k03;have hold3:∀ b o v,C b o v -> b < w3.heap.size:=fun b o v h=>KZ (hold b o v h) k03.size;have h3:=h3.kp k13 (by simp);have hM3:=hMb.kp k03 (by simp);refine lb h5 ?_;refine ac' (fun g1=>?_) (fun g1=>?_)
 ·have g1:n.op = 5:=g1
  refine lb h3 ?_;refine ⟨?_,k03⟩;rw [if_pos g1] at hRES;rw [<- hRES];show Ending.returned (Value.bool (decide _)) = _
  congr 3
  simp
 have g1:¬ n.op = 5:=g1;rw [if_neg g1] at hRES;have yes:∀ {P:Prop},P -> P:=fun h=>h;refine ac' (fun g2=>?_) (fun g2=>?_)
 ·have g2:n.op = 7:=g2
  rw [if_pos (.inl g2)] at hRES;refine au' (p:=n.op = 7) g2 ?_;exact ⟨by rw [<- hRES]; rfl,k03⟩
 have g2:¬ n.op = 7:=g2;refine ac' (fun g3=>?_) (fun g3=>?_)
 ·have g3:n.op = 8:=g3
  rw [if_pos (.inr g3)] at hRES;exact ⟨by rw [<- hRES]; rfl,k03⟩
 have g3:¬ n.op = 8:=g3;rw [if_neg (by omega)] at hRES;refine ac' (fun g4=>?_) (fun g4=>?_)
 ·have g4:n.op = 1:=g4
  rw [if_pos g4] at hRES;obtain ⟨hd,ks,hks⟩:∃ m ks,headT x = .mk m ks:=by
   cases headT x with
   | mk m ks=>exact ⟨m,ks,rfl⟩
  have hmn:hd = n:=by rw [hks] at hnE; exact hnE
  subst hmn;rw [hks] at hhF;obtain ⟨ha0,ha1,_⟩:=hhF.var_lt g4;have hget:=cf' ha0 ha1;have hml:(cx.map bdR).length = cx.length:=by simp
  obtain ⟨bc,oc,cc,rfl,hat⟩:=hcv.at (i:=cx.length - 1 - hd.a.toNat) (x:=bdR (ge' cx hd.a)) (by rw [JX,hget]; rfl)
  obtain ⟨vt,vv,hbc,_,hvv⟩:=oX' hat;obtain ⟨av,cv,rfl,_,_⟩:=hvv;refine as' τok (fun z=>Kp [] w3 z) ?_;refine rV τok (rg 0 19) 0 (mR 19 19) (kQd w3) ?_;refine lk hM3 ?_;refine lk hM3 ?_;refine i6 ?_;refine lk h5 ?_;refine i6 ?_;refine ix (cx.length - 1 - hd.a.toNat) (by omega) (by omega) ?_;refine ldK (hS3 _ _ _ (hbc 1 _ rfl)) ?_;refine dV ?_;refine ⟨?_,k03.dr _⟩;rw [<- hRES];show Ending.returned (Value.bool (decide _)) = _
  congr 2
  have:=rf' (ge' cx hd.a).2;rw [<- Bool.coe_iff_coe,<- this];simp [bdR]
 have g4:¬ n.op = 1:=g4;rw [if_neg g4] at hRES;refine ac' (fun g5=>?_) (fun g5=>?_)
 ·have g5:n.op = 11:=g5
  rw [if_pos g5] at hRES;obtain ⟨hk,hkl,_,_⟩:=aA' hhF.ok (by rw [hnE]; exact g5);obtain ⟨hk1',hkF⟩:=hhF.kidD (k:=1) (by rw [hk]; omega);have hkb:kb (headT x).n 1 = 0:=by simp [kb,aJ',hnE,g5]
  rw [hkb,Int.add_zero] at hkF;refine as' τok (fun z=>Kp [] w3 z) ?_;refine rV τok (rg 0 4) 6 (mR 10 4) (kQd w3) ?_;refine fN' [iV n.op,iV n.a,iV n.b] rfl (fun z hz j v hj=>by rw [KW]; exact (h5.cl hj).kp hz (by simp)) ?_;refine lk h3 ?_;refine nV τok 4 5 (mR 10 5) ?_;refine ab' (dU' (hS3.dr (w3.drawn + 1)) hold3 hhF hhh) ?_;rintro e w4 ⟨uk,rfl,huk,hk4⟩;have hk4:Kp [] w3 w4:=hk4.rd;refine ⟨.inl hk4,?_⟩;obtain ⟨bk,ok,ck,rfl,z,hz,hzT⟩:=TmsV.get (C:=New w3.heap.size w4) huk hk1';refine nV τok 5 4 (mR 10 6) ?_;refine ix 1 rfl (by rw [hk]; omega) ?_;refine ⟨.inl hk4,?_⟩;refine nV τok 6 3 (mR 10 7) ?_;refine ldC (New.sub _ _) hz ?_;refine ⟨.inl hk4,?_⟩;have k04:=k03.tr hk4;refine nV τok 7 2 (mR 10 8) ?_;refine ab' (cD' (New.sub w3.heap.size w4) (fun b o v h=>h.2.lt) hkF hzT) ?_;rintro e w5 ⟨hh5,hu5,rfl,hT5,hA5,hk5⟩;refine ⟨.inl (hk4.tr hk5),?_⟩;refine nV τok 8 1 (mR 10 9) ?_;have k05:=k04.tr hk5;have hfc:=tu' (C:=Im [] w5) (bm:=bm) (cx:=cx) (fu:=fu) hB (Im.sub _ _) (MacC.up hMM k05 hS) (n:=n) (by rw [<- hnE]; exact hhF.node') g5 hkF (h:=hh5) (u:=hu5) ⟨IsTm.tv hT5 (by simp),IsTms.tv hA5 (by simp)⟩;refine ab' hfc ?_;rintro e w6 ⟨rfl,hk6⟩;refine ⟨.inl ((hk4.tr hk5).tr hk6),?_⟩;refine rV τok [9] 0 (mR 10 10) ((hk4.tr hk5).tr hk6) ?_;refine dV ?_;exact ⟨by rw [<- hRES]; rfl,k05.tr hk6⟩
 have g5:¬ n.op = 11:=g5;rw [if_neg g5] at hRES;refine ac' (fun g6=>?_) (fun g6=>?_)
 ·have g6:n.op = 12:=g6
  rw [if_pos g6] at hRES;obtain ⟨f,hf,hpl,hp0,hp1⟩:=cW' hhF.ok (by rw [hnE]; exact g6);refine lb h3 ?_;refine ab' (fC' hS3 hhF (by rw [hnE]; exact g6) hhh) ?_;rintro e w4 ⟨rfl,hk4⟩;have h3:=h3.kp hk4 (by simp);have k04:=k03.tr hk4;refine lb h3 ?_;refine ac' (fun g7=>?_) (fun g7=>?_)
  ·have g7:aD' (headT x) < (argsT x).length:=g7
   obtain ⟨k,hk⟩:∃ k:Nat,aD' (headT x) = (k:Int):=⟨(aD' (headT x)).toNat,by omega⟩
   obtain ⟨y,hy,_⟩:=af' (l:=argsT x) (k:=k) (by omega);have hyF:=hx.args y (JQ hy);obtain ⟨bk,ok,ck,hve,z,hz,hzT⟩:=huu.get hy;injection hve with q1 q2 q3
   subst q1;refine lb h3 ?_;refine ix k hk (by omega) ?_;refine ldC (hS.tr k04) hz ?_;refine ab' (cD' (hS.tr k04) (fun b o v h=>KZ (hold b o v h) k04.size) hyF hzT) ?_;rintro e w5 ⟨hh5,hu5,rfl,hT5,hA5,hk5⟩;obtain ⟨b5',o5',c5',rfl,_,_,_,hc5⟩:=TmV.hd (C:=New w4.heap.size w5) hT5;refine ix 0 rfl (ag' _) ?_;refine ldC (New.sub _ _) (hc5 0 _ rfl) ?_;refine ⟨?_,k04.tr hk5⟩;rw [hk,Int.toNat_natCast] at hRES;rw [<- hRES];have:(argsT x).getD k (varX 0) = y:=by simp [hy]
   rw [this,decide_eq_true (show (k:Int) < (argsT x).length by omega)]
   rfl
  ·have g7:¬ aD' (headT x) < (argsT x).length:=g7
   refine ⟨?_,k04⟩;rw [<- hRES,decide_eq_false g7]
   rfl
 ·have g6:¬ n.op = 12:=g6
  rw [if_neg g6] at hRES;exact ⟨by rw [<- hRES]; rfl,k03⟩
end
def Cn (C:Mem) (w w':World):Mem:=fun b o v=>C b o v \/ New w.heap.size w' b o v
section
variable {C:Mem} {w w' w2:World}
theorem Cn.sub (hS:Sub C w) (k:Kp [] w w'):Sub (Cn C w w') w':=fun b o v h=>h.elim (fun h=>(hS _ _ _ h).kp k (by simp)) fun h=>h.2.cl
theorem Cn.hold (hold:∀ b o v,C b o v -> b < w.heap.size) (k:Kp [] w w') {b o:Nat} {v:Value} (h:Cn C w w' b o v):b < w'.heap.size:=h.elim (fun h=>KZ (hold _ _ _ h) k.size) fun h=>h.2.lt
theorem Cn.up (k:Kp [] w' w2) {b o:Nat} {v:Value} (h:Cn C w w' b o v):Cn C w w2 b o v:=h.elim .inl fun h=>.inr ⟨h.1,h.2.kp k (by simp)⟩
theorem IsTm.cn {x:Tr} {v:Value} {w1:World} (h:IsTm x w1 w' v) (hk:w.heap.size <= w1.heap.size):TmV (Cn C w w') x v:=TmV.mono h fun _ _ _ h=>.inr ⟨KQ hk h.1,h.2⟩
end
def nr' (x:Tr) (k:Int):Tr:=(argsT x).getD k.toNat (varX 0)
def df' (x:Tr):Option Tr :=
 if (headT x).n.op = 11 then some (kidD (headT x) 1)
 else if (headT x).n.op = 12 then (if aD' (headT x) < (argsT x).length then some (nr' x (aD' (headT x))) else none)
 else none
section
variable {C:Mem} {w:World} {Q:Nd -> Prop} {N:Int} {x:Tr}
theorem lw' (hx:Ft Q N x) {p:Tr} (h:df' x = some p):Ft Q N p /\ (row p).length < (row x).length:=by
 have hs:=hx.nargs;have hn:=ji' (argsT x);unfold df' at h;split at h
 ·rename_i g
  obtain ⟨hk,hkl,_,_⟩:=aA' hx.head.ok g;obtain ⟨h1,h2⟩:=hx.head.kidD (k:=1) (by rw [hk]; omega);have hkb:kb (headT x).n 1 = 0:=by simp [kb,aJ',g]
  rw [hkb,Int.add_zero] at h2;obtain rfl:=JB h;have:=fy' (headT x) _ (JQ h1);exact ⟨h2,by omega⟩
 ·split at h
  ·rename_i g
   split at h
   ·rename_i g2
    obtain rfl:=JB h;obtain ⟨f,hf,hpl,hp0,hp1⟩:=cW' hx.head.ok g;obtain ⟨y,hy,_⟩:=af' (l:=argsT x) (k:=(aD' (headT x)).toNat) (by omega);have e:nr' x (aD' (headT x)) = y:=by simp [nr',hy]
    rw [e];have:=eV' (JQ hy);have:=ag' (headT x);exact ⟨hx.args y (JQ hy),by omega⟩
   ·cases h
  ·cases h
theorem tv' (hS:Sub C w) (hold:∀ b o v,C b o v -> b < w.heap.size) (hx:Ft Q N x) {h u:Value} (hf:FoV C x h u) :
  CC 114 #[.agg #[h,u]] w (fun e w'=>(match df' x with
   | some p=>∃ v,e = .returned (.tuple #[v,.bool true]) /\ TmV (Cn C w w') p v
   | none=>e = .returned (.tuple #[.slice none 0 0,.bool false])) /\ Kp [] w w'):=by
 refine oF Tryz.func114 ?_;obtain ⟨hh,hu⟩:=hf;have hhh:=hh;have huu:=hu;obtain ⟨bh,oh,ch,rfl,hi1,hi2,hi3,hhc⟩:=hh.hd;obtain ⟨au,cu,rfl,hu1,hu2⟩:=hu;have hfew:=hx.few;obtain ⟨RES,hRES⟩:∃ r,df' x = r:=⟨_,rfl⟩
 rw [hRES];unfold df' at hRES;refine cO (args:=[_]) 32 [.tmp 2,.tmp 3] τok Tryz.func114 ?_;refine new fun b1 w1 hb1 h1 hs1 hk1=>?_;have h1:Bk w1.heap b1 [.slice (some ⟨bh,oh,none⟩) (row (headT x)).length ch,.slice au (argsT x).length cu] 161:=h1;have hS1:=hS.tr hk1;have hold1:∀ b o v,C b o v -> b < w1.heap.size:=fun b o v h=>KZ (hold b o v h) hk1.size;refine lb h1 ?_;refine ix 0 rfl (ag' _) ?_;refine ldC hS1 (by simpa using hhc 0 _ rfl) ?_;refine ac' (fun g=>?_) (fun g=>?_)
 ·have g:(headT x).n.op = 11:=g
  rw [if_pos g] at hRES;obtain ⟨hk,hkl,_,_⟩:=aA' hx.head.ok g;obtain ⟨hk1',hkF⟩:=hx.head.kidD (k:=1) (by rw [hk]; omega);refine lb h1 ?_;refine ab' (dU' hS1 hold1 hx.head hhh) ?_;rintro e w2 ⟨uk,rfl,huk,hk2⟩;obtain ⟨bk,ok,ck,rfl,z,hz,hzT⟩:=TmsV.get (C:=New w1.heap.size w2) huk hk1';refine ix 1 rfl (by rw [hk]; omega) ?_;refine ldC (New.sub _ _) hz ?_;subst hRES;exact ⟨⟨_,rfl,hzT.mono fun _ _ _ h=>.inr ⟨KQ hk1.size h.1,h.2⟩⟩,hk1.tr hk2⟩
 have g:¬ (headT x).n.op = 11:=g;rw [if_neg g] at hRES;refine ac' (fun g2=>?_) (fun g2=>?_)
 ·have g2:(headT x).n.op = 12:=g2
  rw [if_pos g2] at hRES;obtain ⟨f,hf,hpl,hp0,hp1⟩:=cW' hx.head.ok g2;refine lb h1 ?_;refine ab' (fC' hS1 hx.head g2 hhh) ?_;rintro e w2 ⟨rfl,hk2⟩;have h1:=h1.kp hk2 (by simp);have k02:=hk1.tr hk2;refine lb h1 ?_;refine ac' (fun g3=>?_) (fun g3=>?_)
  ·have g3:aD' (headT x) < (argsT x).length:=g3
   rw [if_pos g3] at hRES;obtain ⟨k,hk⟩:∃ k:Nat,aD' (headT x) = (k:Int):=⟨(aD' (headT x)).toNat,by omega⟩
   obtain ⟨y,hy,_⟩:=af' (l:=argsT x) (k:=k) (by omega);obtain ⟨bk,ok,ck,hve,z,hz,hzT⟩:=huu.get hy;injection hve with q1 q2 q3
   subst q1;refine lb h1 ?_;refine ix k hk (by omega) ?_;refine ldC (hS.tr k02) hz ?_;have e:nr' x (aD' (headT x)) = y:=by simp [nr',hk,hy]
   rw [e] at hRES;subst hRES;exact ⟨⟨_,rfl,hzT.mono fun _ _ _ h=>.inl h⟩,k02⟩
  ·have g3:¬ aD' (headT x) < (argsT x).length:=g3
   rw [if_neg g3] at hRES;subst hRES;exact ⟨rfl,k02⟩
 ·have g2:¬ (headT x).n.op = 12:=g2
  rw [if_neg g2] at hRES;subst hRES;exact ⟨rfl,hk1⟩
theorem oZ' (hS:Sub C w) (hx:Ft Q N x) {h u:Value} (hf:FoV C x h u) (room:Int) :
  CC 119 #[.agg #[h,u],iV room] w (fun e w'=>(if room < (row x).length then e = .panicked (dA' 9) else e = .returned (.agg #[h,u])) /\ Kp [] w w'):=by
 refine oF Tryz.func119 ?_;obtain ⟨hh,hu⟩:=hf;have hhh:=hh;have huu:=hu;obtain ⟨ah,ch,rfl,_,_⟩:=hh;obtain ⟨au,cu,rfl,_,_⟩:=hu;refine cO (args:=[_,_]) 12 [.cell 4 161] τok Tryz.func119 ?_;refine new fun b2 w1 hb2 h2 hs1 hk1=>?_;have h2:Bk w1.heap b2 [.slice ah (row (headT x)).length ch,.slice au (argsT x).length cu] 161:=h2;refine new fun b4 w2 hb4 h4 hs2 hk2=>?_;have h2:=h2.kp hk2 (by simp);have k02:=hk1.tr hk2;refine ldN [.slice ah (row (headT x)).length ch,.slice au (argsT x).length cu] rfl (bZ h2) ?_;refine ab' (mD' (hS.tr k02) hx ⟨hhh,huu⟩) ?_;rintro e w3 ⟨rfl,hk3⟩;have k03:=k02.tr hk3;refine ac' (fun g=>?_) (fun g=>?_)
 ·have g:room < ((row x).length:Int):=g
  refine run (jh' _ w3) ?_;exact ⟨by rw [if_pos g]; rfl,k03⟩
 ·have g:¬ room < ((row x).length:Int):=g
  refine ldN [.slice ah (row (headT x)).length ch,.slice au (argsT x).length cu] rfl (fun j v hj=>by rw [KW]; exact (h2.kp hk3 (by simp)).cl hj) ?_;refine stN (vs:=[.slice ah (row (headT x)).length ch,.slice au (argsT x).length cu]) (h4.kp hk3 (by simp)) rfl (by simp [Value.oneCell']) fun w4 h4 hs4 hk4=>?_;refine nl' τok rfl [_,_] rfl (fun j v hj=>h4.cl hj) ?_;refine ⟨by rw [if_neg g]; rfl,k03.trans hk4 fun x hx hl=>?_⟩;obtain rfl:x = b4:=by simpa using hx
  have:=hk1.size;omega
end
theorem eg' {C:Mem} {w:World} (hS:Sub C w) (l:List Value) (a:Option Addr) (c:Nat) (hl:Sl ez' C a l) (hlen:l.length <= 1000000) :
  CC 90 #[.slice a l.length c] w (fun e w'=>(∃ v,e = .returned v /\ Own ez' 29 w.heap.size w' v l) /\ Kp [] w w'):=by
 refine oF Tryz.func90 ?_;refine cO (args:=[_]) 8 [.tmp 2] τok Tryz.func90 ?_;refine od' τok rfl ?_;cases a with
 | none =>
  obtain rfl:=hl.none_nil;exact ⟨⟨_,rfl,Own.nil _ _ (KJ _)⟩,Kp.refl _ _⟩
 | some a =>
  refine fill [] rfl ?_;refine new fun b1 w1 hb1 hB1 hs1 hk1=>?_;refine (Own.empty ez' hB1 (lo:=w.heap.size) (by omega)).apF τok rfl rfl (by decide) bl' (hS.tr hk1) l hl (by simp only [JU]; omega) (by simp only [JU,maxLen]; omega) fun v2 w2 hO2 hk2 _=>?_;rw [List.nil_append] at hO2;exact ⟨⟨v2,rfl,hO2⟩,hk1.own hk2 (Own.empty ez' hB1 (lo:=w.heap.size) (by omega))⟩
theorem iw' {C:Mem} {w:World} (hS:Sub C w) (l:List Nd) (a:Option Addr) (c:Nat) (hl:Sl rNd C a l) (hlen:l.length <= 1000000) :
  CC 27 #[.slice a l.length c] w (fun e w'=>(∃ v,e = .returned v /\ Own rNd 45 w.heap.size w' v l) /\ Kp [] w w'):=by
 refine oF Tryz.func27 ?_;refine cO (args:=[_]) 8 [.tmp 2] τok Tryz.func27 ?_;refine od' τok rfl ?_;cases a with
 | none =>
  obtain rfl:=hl.none_nil;exact ⟨⟨_,rfl,Own.nil _ _ (KJ _)⟩,Kp.refl _ _⟩
 | some a =>
  refine fill [] rfl ?_;refine new fun b1 w1 hb1 hB1 hs1 hk1=>?_;refine (Own.empty rNd hB1 (lo:=w.heap.size) (by omega)).apF τok rfl rfl (by decide) cy' (hS.tr hk1) l hl (by simp only [JU]; omega) (by simp only [JU,maxLen]; omega) fun v2 w2 hO2 hk2 _=>?_;rw [List.nil_append] at hO2;exact ⟨⟨v2,rfl,hO2⟩,hk1.own hk2 (Own.empty rNd hB1 (lo:=w.heap.size) (by omega))⟩
theorem vc' {P:Program} {τ:Tau} (hτ:ax' P τ) {T e sz bs:Nat} (hs:Go.Wx.look τ.slcs T = some (e,sz,bs)) {a:Option Addr} {len cap:Nat} {w:World} {k:Value -> World -> Prop} {j j':IntKind} {i i':Int} (h m:Nat) (hi:i = h) (hi':i' = m) (h1:h <= m) (h2:m <= cap) (hk:k (sliced a 0 h m sz) w):EvRun P (Instr.sliceAt T (.slice a len cap) none (some (.int j i)) (some (.int j' i'))) w k:=by
 obtain ⟨hu,hz⟩:=dw' hτ hs;subst hi hi';refine run ?_ hk;rw [run_sliceAt_slice w T _ _ _ _ hu,run_slice_hm w T a len cap hu j j' h m (by omega) (by omega) (by omega),hz]
 rfl
theorem rh' {α:Type} {R:Rd α} (hR:R.sz = 2) {C:Mem} {w:World} (l:List α) (a:Option Addr) (c:Nat) (hl:Sl R C a l) (hc:l.length <= c) :
  CC 76 #[.slice a l.length c] w (fun e w'=>(∃ a',e = .returned (.slice a' l.length l.length) /\ Sl R C a' l) /\ Kp [] w w'):=by
 refine oF Tryz.func76 ?_;refine cO (args:=[_]) 9 [.tmp 2] τok Tryz.func76 ?_;refine vc' τok rfl l.length l.length rfl rfl (KJ _) hc ?_;rcases hl.2 with h0 | ⟨b,o,rfl,h2⟩
 ·have:l = []:=List.length_eq_zero_iff.1 h0
  subst this;exact ⟨⟨_,rfl,Sl.nil _ _ _⟩,Kp.refl _ _⟩
 ·rw [dQ']
  exact ⟨⟨_,rfl,hl⟩,Kp.refl _ _⟩
theorem ri' {α:Type} {R:Rd α} (hR:R.sz = 2) {C:Mem} {w:World} (l:List α) (a:Option Addr) (c:Nat) (hl:Sl R C a l) (hc:l.length <= c) :
  CC 162 #[.slice a l.length c] w (fun e w'=>(∃ a',e = .returned (.slice a' l.length l.length) /\ Sl R C a' l) /\ Kp [] w w'):=by
 refine oF Tryz.func162 ?_;refine cO (args:=[_]) 9 [.tmp 2] τok Tryz.func162 ?_;refine vc' τok rfl l.length l.length rfl rfl (KJ _) hc ?_;rcases hl.2 with h0 | ⟨b,o,rfl,h2⟩
 ·have:l = []:=List.length_eq_zero_iff.1 h0
  subst this;exact ⟨⟨_,rfl,Sl.nil _ _ _⟩,Kp.refl _ _⟩
 ·rw [dQ']
  exact ⟨⟨_,rfl,hl⟩,Kp.refl _ _⟩
theorem pa' (n:Nat) (hn:n <= 1000000) (w:World) :
  CC 154 #[.slice none 0 0,iV (n:Int)] w (fun e w'=>∃ v,e = .returned v /\ Own ez' 29 w.heap.size w' v [] /\ Kp [] w w'):=by
 refine oF Tryz.func154 ?_;refine cO (args:=[_,_]) 27 [.tmp 4] τok Tryz.func154 ?_;refine sn' rfl ?_;refine i6 ?_;refine i6 ?_;refine ac' (fun g=>?_) (fun g=>?_);rotate_left
 ·exact ⟨_,rfl,Own.nil _ _ (KJ _),Kp.refl _ _⟩
 have h0:0 < n:=by
  have g:(0:Int) < (n:Int) - ((0:Nat) - (0:Nat):Int):=g;omega
 refine sn' rfl ?_;refine nk' τok rfl 0 (.slice none 0 0) rfl (KJ _) rfl ?_;have e:((n:Int) - ((0:Nat) - (0:Nat):Int)) = (n:Int):=by omega
 rw [e];refine apZ (R:=ez') rfl rfl (by decide) rfl (by decide) n h0 hn fun B G w1 hB hG hO hk=>?_;refine nk' τok rfl 0 _ rfl (KV _) dQ' ?_;exact ⟨_,rfl,hO,hk⟩
theorem lx' {D:Mem} {w:World} (hD:Sub D w) (ls:List (List Value)) (a:Option Addr) (cap:Nat) (hl:Sl (rSl ez') D a ls) (hlen:ls.length <= 100000) (hsum:(ls.map List.length).sum <= 1000000) :
  CC 138 #[.slice a ls.length cap] w (fun e w'=>∃ v,e = .returned v /\ Own ez' 29 w.heap.size w' v ls.flatten /\ Kp [] w w'):=by
 refine oF Tryz.func138 ?_;refine cO (args:=[_]) 36 [.tmp 2] τok Tryz.func138 ?_;have hDl:=hD.lt;have hpart:∀ k,((ls.take k).map List.length).sum + ((ls.drop k).map List.length).sum = (ls.map List.length).sum:=fun k=>by
  rw [<- List.sum_append,<- List.map_append,List.take_append_drop]
 refine lp τok (σ:=Nat) (fun k=>[(0,.slice a ls.length cap),(3,iV (((ls.take k).map List.length).sum:Nat)),(9,.slice a ls.length cap),(10,iV ls.length),(11,iV k)]) (fun k w'=>k <= ls.length /\ w' = w) (fun k=>ls.length - k) 0 rfl
  ⟨rfl,rfl,rfl,rfl,rfl,trivial⟩ ⟨KV _,rfl⟩ ?_
 rintro k w1 ⟨hk,rfl⟩;refine ac' (fun g1=>?_) (fun g1=>?_)
 ·have hlt:k < ls.length:=by omega
  obtain ⟨x,hx,hd⟩:=af' hlt;have e1:((ls.take (k + 1)).map List.length).sum = ((ls.take k).map List.length).sum + x.length:=by rw [al' hx]; simp
  have hp:=hpart (k + 1);obtain ⟨b,o,rfl,ax,cx,hcell,hsl⟩:=hl.sl hx;refine ix k rfl hlt ?_;refine ldC hD hcell ?_;refine i6 ?_;refine i6 ?_;refine ⟨k + 1,by omega,rfl,⟨rfl,?_,rfl,rfl,rfl,trivial⟩,hlt,rfl⟩;rw [e1]
  rfl
 have e2:ls.take k = ls:=JG (by omega);rw [e2];refine ab' (pa' _ hsum w1) ?_;rintro e w2 ⟨v2,rfl,hO2,hk2⟩;refine lp τok (σ:=Nat × Value) (fun q=>[(6,q.2),(25,.slice a ls.length cap),(26,iV ls.length),(27,iV q.1)]) (fun q w'=>q.1 <= ls.length /\ Own ez' 29 w1.heap.size w' q.2 (ls.take q.1).flatten /\ Kp [] w1 w') (fun q=>ls.length - q.1) (0,v2) rfl
  ⟨rfl,rfl,rfl,rfl,trivial⟩ ⟨KV _,by simpa using hO2,hk2⟩ ?_
 clear hO2
 rintro ⟨k,v⟩ w3 ⟨hk,hO,hk3⟩;simp only at hk hO;refine ac' (fun g2=>?_) (fun g2=>?_)
 ·have hlt:k < ls.length:=by omega
  obtain ⟨x,hx,hd⟩:=af' hlt;have e1:(ls.take (k + 1)).flatten = (ls.take k).flatten ++ x:=by rw [al' hx]; simp
  have hp:=hpart (k + 1);have e3:((ls.take (k + 1)).map List.length).sum = (ls.take k).flatten.length + x.length:=by rw [<- List.length_flatten,e1]; simp
  obtain ⟨b,o,rfl,ax,cx,hcell,hsl⟩:=hl.sl hx;refine ix k rfl hlt ?_;refine ldC (hD.tr hk3) hcell ?_;refine hO.apF τok rfl rfl (by decide) bl' (hD.tr hk3) x hsl (by omega) (by unfold maxLen; omega) fun v' w4 hO4 hk4 _=>?_;refine i6 ?_;refine ⟨(k + 1,v'),by simp only; omega,rfl,⟨rfl,rfl,rfl,rfl,trivial⟩,hlt,?_,hk3.own hk4 hO⟩;rw [e1];exact hO4
 ·rw [JG (by omega)] at hO
  exact ⟨v,rfl,hO,hk3⟩
def fixAt (x:Tr) (i:Int):Tr:=.mk { x.n with a:=i } x.ks
def ay' (b u:Tr) (v:Int):Except Int Tr:=if mm' b u v = true then .error 9 else .ok (bf' b u v)
def bp' (x:Tr):Nat -> Tr -> Except Int Tr
 | 0,b=>.ok b
 | i + 1,b=>(ay' b (aq' (fixAt x i) i 0) 0).bind (bp' x i)
def dg' (x:Tr):Except Int Tr:=bp' x x.n.b.toNat (kidD x (2 * x.n.a.toNat + 1))
section
variable {C:Mem} {w:World} {Q:Nd -> Prop} {N:Int} {x:Tr}
theorem Ft.fixAt (hQ:Qk Q) (hx:Ft Q N x) (h12:x.n.op = 12) {i:Int} (h0:0 <= i) (hi:i < x.n.b):Ft Q N (fixAt x i):=by
 obtain ⟨n,ks⟩:=x;have hl:=aG' hx.ok h12;simp only [Tr.n,Tr.ks] at h12 hi hl;unfold Go.Proofs.YtpealcfjbcpoiaaGreat.fixAt;simp only [Tr.n,Tr.ks];obtain ⟨hc,hok,hinc⟩:=hx.ok.kids;have hp:=hx.ok.tm.1;have hp':ah' { n with a:=i } = true:=by
  have:inR n.b 1 4 = true /\ inR n.a 0 (n.b - 1) = true:=by simpa [ah',h12] using hp
  simp [ah',h12,this.1];rw [aF'];omega
 have hkc:ar' { n with a:=i } = ar' n:=by simp [ar',h12]
 have hnx:∀ k,nx .tm { n with a:=i } k = nx .tm n k:=fun k=>by simp [nx]
 refine ⟨⟨⟨?_,?_⟩,?_⟩,?_,?_,?_⟩
 ·rw [<- hc]
  simp only [cnt,hp,hp',hkc]
 ·have:∀ (l:List Tr) (k:Nat),okL cnt nx l n .tm k -> okL cnt nx l { n with a:=i } .tm k:=by
   intro l
   induction l with
   | nil=>intros; trivial
   | cons y l ih=>intro k h; exact ⟨by rw [hnx]; exact h.1,ih _ h.2⟩
  exact this ks 0 hok
 ·have:=hx.ok.2
  simpa [fZ'] using this
 ·have:=hx.len
  simpa [row] using this
 ·have h1:n.op ≠ 1:=by omega
  have hb:∀ q ∈ varsK ks n 0 0 0,q.1 - q.2 < N:=fun q hq=>hx.bl q (by simpa [varsT,h1] using hq);have e:∀ (l:List Tr) (k d:Int),varsK l { n with a:=i } 0 k d = varsK l n 0 k d:=by
   intro l
   induction l with
   | nil=>intros; rfl
   | cons y l ih=>intro k d; simp only [varsK,ih]; rfl
  intro q hq;simp only [varsT,h1,if_false] at hq;rw [e] at hq;exact hb q hq
 ·rw [ib']
  exact ⟨hQ.app _ (by simp only; omega),(ib'.1 hx.al).2⟩
theorem bg' {x:Tr} (hx:Ok .tm x) (h12:x.n.op = 12):((kidsT x).length:Int) = 2 * x.n.b:=by
 have hl:=aG' hx h12;obtain ⟨n,ks⟩:=x;simp only [Tr.n,Tr.ks] at h12 hl;obtain ⟨hc,hok,hi⟩:=hx.kids;have h2:n.op ≠ 2:=by omega
 have:∀ k ∈ ks,k.ks.length = 2:=fun f hm=>by
  obtain ⟨i,hi'⟩:=JH hm;obtain ⟨ty,bo,e,_⟩:=fQ' hx h12 (k:=i) (f:=f) hi';rw [e]
  rfl
 simp only [kidsT,if_neg h2,if_pos h12,Tr.n];rw [eu' this];omega
theorem az' (hQ:Qk Q) {b u z:Tr} {v:Int} (hb:Ft Q (N + 1 + v) b) (hu:Ft Q N u) (h0:0 <= N) (hN:N <= 100000) (hv0:0 <= v) (hv:v <= 300000) (h:ay' b u v = .ok z):Ft Q (N + v) z:=by
 unfold ay' at h;split at h
 ·cases h
 ·rename_i g
  injection h with h
  subst h;exact hb.subst hQ hu h0 hN hv0 hv (by simpa using g)
theorem gT' (hQ:Qk Q) (hx:Ft Q N x) (h12:x.n.op = 12) (h0:0 <= N) (hN:N <= 90000):∀ (i:Nat) (b z:Tr),(i:Int) <= x.n.b -> Ft Q (N + i) b -> bp' x i b = .ok z -> Ft Q N z
 | 0,b,z,_,hb,h=>by
  simp only [bp',Except.ok.injEq] at h;subst h;exact hb.mono (by simp)
 | i + 1,b,z,hi,hb,h=>by
  simp only [bp'] at h;have hl:=aG' hx.ok h12;have hf:=(hx.fixAt hQ h12 (i:=i) (by omega) (by omega)).lift hQ (b:=i) (by omega) (by omega) (by omega);cases e:ay' b (aq' (Go.Proofs.YtpealcfjbcpoiaaGreat.fixAt x i) i 0) 0 with
  | error er=>rw [e] at h; cases h
  | ok y =>
   rw [e] at h;have hy:=az' hQ (N:=N + i) (v:=0) (hb.mono (by omega)) hf (by omega) (by omega) (by omega) (by omega) e;exact gT' hQ hx h12 h0 hN i y z (by omega) (hy.mono (by omega)) h
theorem gU' (hQ:Qk Q) (hx:Ft Q N x) (h12:x.n.op = 12) (h0:0 <= N) (hN:N <= 90000) {z:Tr} (h:dg' x = .ok z):Ft Q N z:=by
 have hl:=aG' hx.ok h12;have hk:=bg' hx.ok h12;obtain ⟨_,h2⟩:=hx.kidD (k:=2 * x.n.a.toNat + 1) (by omega);have hkb:kb x.n (2 * x.n.a.toNat + 1) = x.n.b:=by
  unfold kb;rw [if_pos h12,if_pos (by omega)]
 rw [hkb] at h2;exact gT' hQ hx h12 h0 hN x.n.b.toNat _ z (by omega) (h2.mono (by omega)) h
theorem ly' (hQ:Qk Q) (hS:Sub C w) (hold:∀ b o v,C b o v -> b < w.heap.size) (hx:Ft Q N x) (h12:x.n.op = 12) (hN0:0 <= N) (hN:N <= 90000) {v:Value} (hv:TmV C x v) :
  CC 139 #[v] w (fun e w'=>(match dg' x with
   | .ok z=>∃ u,e = .returned u /\ TmV (Cn C w w') z u
   | .error er=>e = .panicked (dA' er)) /\ Kp [] w w'):=by
 refine oF Tryz.func139 ?_;have hvv:=hv;have hl:=aG' hx.ok h12;have hk:=bg' hx.ok h12;have hlen:=hx.len;obtain ⟨b,o,c,rfl,hi1,hi2,hi3,hc⟩:=hv.hd;obtain ⟨RES,hRES⟩:∃ r,dg' x = r:=⟨_,rfl⟩
 rw [hRES];unfold dg' at hRES;obtain ⟨hg,hkF⟩:=hx.kidD (k:=2 * x.n.a.toNat + 1) (by omega);have hkb:kb x.n (2 * x.n.a.toNat + 1) = x.n.b:=by
  unfold kb;rw [if_pos h12,if_pos (by omega)]
 rw [hkb] at hkF;refine cO (args:=[_]) 45 [.tmp 2] τok Tryz.func139 ?_;refine ix 0 rfl (ag' _) ?_;refine ldC hS (by simpa using hc 2 _ rfl) ?_;refine as' τok (fun z=>Kp [] w z) ?_;refine rV τok [0,2,3,4,5,6,7] 4 (mB 11 [1,8,9,10]) (kQd w) ?_;refine ix 0 rfl (ag' _) ?_;refine ldK (hS _ _ _ (by simpa using hc 1 _ rfl)) ?_;refine i6 ?_;refine i6 ?_;refine nV τok 1 3 (mR 11 8) ?_;refine ab' (dU' (hS.dr (w.drawn + 1)) hold hx hvv) ?_;rintro e w1 ⟨uk,rfl,huk,hk1⟩;have hk1:Kp [] w w1:=hk1.rd;refine ⟨.inl hk1,?_⟩;obtain ⟨bk,ok,ck,rfl,z,hz,hzT⟩:=TmsV.get (C:=New w.heap.size w1) huk hg;refine nV τok 8 2 (mR 11 9) ?_;refine ix (2 * x.n.a.toNat + 1) (by omega) (by omega) ?_;refine ⟨.inl hk1,?_⟩;refine nV τok 9 1 (mR 11 10) ?_;refine ldC (New.sub _ _) hz ?_;refine ⟨.inl hk1,?_⟩;refine rV τok [10] 0 (mR 11 11) hk1 ?_;refine dV ?_;refine i6 ?_;refine lp τok (σ:=Nat × Tr × Value) (fun q=>[(0,.slice (some ⟨b,o,none⟩) (row x).length c),(3,iV x.n.b),(4,q.2.2),(5,iV ((q.1:Int) - 1))])
  (fun q w'=>(q.1:Int) <= x.n.b /\ Ft Q (N + q.1) q.2.1 /\ TmV (Cn C w w') q.2.1 q.2.2 /\ Kp [] w w' /\ bp' x q.1 q.2.1 = RES) (fun q=>q.1) (x.n.b.toNat,kidD x (2 * x.n.a.toNat + 1),z) rfl
  ⟨rfl,rfl,rfl,?_,trivial⟩ ⟨by simp only; omega,hkF.mono (by simp only; omega),hzT.mono fun _ _ _ h=>.inr h,hk1,hRES⟩ ?_
 ·show some (iV (x.n.b - 1)) = some (iV ((x.n.b.toNat:Int) - 1))
  congr 3
  omega
 rintro ⟨j,bo,vb⟩ w2 ⟨hj,hbF,hbV,hk2,hres⟩;simp only at hj hbF hbV hres;refine ac' (fun g=>?_) (fun g=>?_)
 ·have g:(0:Int) <= (j:Int) - 1:=g
  obtain ⟨i,rfl⟩:∃ i,j = i + 1:=⟨j - 1,by omega⟩
  simp only [bp'] at hres;have e0:((i + 1:Nat):Int) - 1 = (i:Int):=by omega
  rw [e0];obtain ⟨a',c',hva,hsl,_⟩:=hvv;injection hva with q1 q2 q3
  subst q1 q3;refine ab' (iw' (hS.tr hk2) (row x) _ c hsl (by omega)) ?_;rintro e w3 ⟨⟨vf,rfl,hO3⟩,hk3⟩;obtain ⟨n,ks⟩:=x;obtain ⟨g3,cap3,rfl,hlo3,hst⟩:=hO3.st (i:=0) (j:=1) (x:=n) (y:={ n with a:=(i:Int) }) (by simp [row]) (by decide) (u:=iV (i:Int)) rfl (fun cs h=>by
   obtain ⟨rfl,h1,h2,h3⟩:=h;exact ⟨rfl,h1,(show -9223372036854775808 <= (i:Int) /\ (i:Int) <= 9223372036854775807 by simp only [Tr.n] at hj hl; omega),h3⟩)
  refine ix 0 rfl (ag' _) ?_;refine hst fun w4 hO4 hs4 hk4=>?_;have e4:(row (.mk n ks)).set 0 { n with a:=(i:Int) } = row (fixAt (.mk n ks) i):=by simp [row,fixAt,Tr.n,Tr.ks]
  rw [e4] at hO4;have hl4:(row (fixAt (.mk n ks) i)).length = (row (.mk n ks)).length:=by rw [<- e4]; simp
  have hT4:=Own.isTm hO4 (by omega);rw [<- hl4];have k24:Kp [] w2 w4:=hk3.trans hk4 (fun x hx hl=>by
   obtain rfl:x = g3:=by simpa using hx
   omega)
  have hfF:=hx.fixAt hQ h12 (i:=i) (by omega) (by simp only [Tr.n] at hj ⊢; omega);have hT4':TmV (New w2.heap.size w4) (fixAt (.mk n ks) i) (.slice (some ⟨g3,0,none⟩) (row (fixAt (.mk n ks) i)).length cap3):=by
   obtain ⟨a5,c5,h5,h6,h7⟩:=hT4;rw [hl4] at h5 ⊢;injection h5 with q1 q2 q3
   subst q1 q3;exact ⟨_,_,by rw [hl4],h6,h7⟩
  refine ab' (dG' (New.sub _ _) (fun b o v h=>h.2.lt) hfF (by omega) hT4' (b:=i) (by simp only [Tr.n] at hj hl; omega)) ?_;rintro e w5 ⟨u5,rfl,hT5,hk5⟩;have k25:=k24.tr hk5;have hT5':=IsTm.cn (C:=C) (w:=w) hT5 (KQ hk2.size k24.size);obtain ⟨a5,c5,rfl,_⟩:=hT5;refine ab' (aC' _ ⟨_,_,_,rfl⟩ w5) ?_;rintro e w6 ⟨rfl,hk6⟩;have k26:=k25.tr hk6;have k06:=hk2.tr k26;have hlF:=hfF.lift hQ (by omega) (b:=(i:Int)) (by omega) (by simp only [Tr.n] at hj hl; omega);have hsb:=je' (Cn.sub hS k06) (fun b o v h=>Cn.hold hold k06 h) (N:=N + i) (v:=0) (hbF.mono (by omega)) hlF (by simp only [Tr.n] at hj hl; omega) (hbV.mono fun _ _ _ h=>h.up k26) (hT5'.mono fun _ _ _ h=>h.up hk6) (by omega);refine ab' hsb ?_;rintro e w7 ⟨he,hk7⟩;have k07:=k06.tr hk7
  by_cases hbig:mm' bo (aq' (fixAt (.mk n ks) i) i 0) 0 = true
  ·rw [if_pos hbig] at he
   subst he;refine ab' (bm' _ ⟨_,_,_,rfl⟩ 9 (by decide) w7) ?_;rintro e w8 ⟨rfl,hk8⟩;simp only [ay',if_pos hbig] at hres;subst hres;exact ⟨rfl,k07.tr hk8⟩
  ·rw [if_neg hbig] at he
   obtain ⟨z7,rfl,hT7⟩:=he;have hT7':=IsTm.cn (C:=C) (w:=w) hT7 k06.size;obtain ⟨a7,c7,rfl,_⟩:=hT7;refine ab' (aC' _ ⟨_,_,_,rfl⟩ w7) ?_;rintro e w8 ⟨rfl,hk8⟩;refine i6 ?_;have hse:ay' bo (aq' (fixAt (.mk n ks) i) i 0) 0 = .ok (bf' bo (aq' (fixAt (.mk n ks) i) i 0) 0):=by simp only [ay',if_neg hbig]
   have hnF:=az' hQ (N:=N + i) (v:=0) (hbF.mono (by omega)) hlF (by omega) (by simp only [Tr.n] at hj hl; omega) (by omega) (by omega) hse;rw [hse] at hres;exact ⟨(i,_,_),by simp only; omega,rfl,⟨rfl,rfl,rfl,rfl,trivial⟩,by show (i:Int) <= _; omega,hnF.mono (by simp only; omega),hT7'.mono fun _ _ _ h=>h.up hk8,k07.tr hk8,hres⟩
 ·have g:¬ (0:Int) <= (j:Int) - 1:=g
  obtain rfl:j = 0:=by omega
  simp only [bp'] at hres;subst hres;exact ⟨⟨_,rfl,hbV⟩,hk2⟩
end
end Go.Proofs.YtpealcfjbcpoiaaGreat
