import Derived.Test.YtmlnlmkmpgkekaaGreatMy02
import Derived.Laws.CopyRow
import Derived.Lib.SliceRun
set_option linter.unusedVariables false
set_option linter.unusedSimpArgs false
namespace Go.Wx
theorem sE' {x:Int} (h0:0 <= x) (h:x < 18446744073709551616):IntKind.wrap .u64 x = x:=by
 simp only [IntKind.wrap,IntKind.bits,IntKind.signed];simp;omega
theorem uP' {x:Int} (h0:0 <= x) (h:x < 256):IntKind.wrap .u8 x = x:=by
 simp only [IntKind.wrap,IntKind.bits,IntKind.signed];simp;omega
theorem sF' (x:Int):IntKind.wrap .u8 x = x % 256:=by
 simp only [IntKind.wrap,IntKind.bits,IntKind.signed];simp
section
variable {P:Program} {k:Value -> World -> Prop} {kq:Value -> Prop} {C:World -> Prop} {t:TypeId} {w:World}
theorem tq' {x y:Nat} (hx:x < 256) (hy:y < 256) (w:World):(binOp .or t (.int .u8 (x:Int)) (.int .u8 (y:Int))).run P w = .ok (.int .u8 ((x ||| y:Nat):Int)) w:=by
 have h1:(x ||| y) < 2 ^ 8:=Nat.or_lt_two_pow (by omega) (by omega);have e:(BitVec.ofInt 8 (x:Int) ||| BitVec.ofInt 8 (y:Int)).toNat = x ||| y:=by
  rw [BitVec.toNat_or];simp only [BitVec.ofInt_natCast,BitVec.toNat_ofNat];rw [Nat.mod_eq_of_lt (by omega),Nat.mod_eq_of_lt (by omega)]
 have:=uP' (x:=((x ||| y:Nat):Int)) (by omega) (by omega);simp only [binOp_or,Op.intBits,IntKind.bits,Sem.run_pure];exact congrArg (fun z=>Result.ok z w) (congrArg _ ((congrArg (fun n:Nat=>IntKind.wrap _ (n:Int)) e).trans this))
theorem oy' {x n:Nat} {j:IntKind} (hn:n <= 64) (w:World):(binOp .shr t (.int .u64 (x:Int)) (.int j (n:Int))).run P w = .ok (.int .u64 ((x / 2 ^ n:Nat):Int)) w:=by
 simp only [binOp_shr,Op.shift,IntKind.bits];rw [if_neg (by omega)];simp only [Int.toNat_natCast,Sem.run_pure];rw [Nat.min_eq_left hn,Int.fdiv_eq_ediv_of_nonneg _ (by exact Int.le_of_lt (Int.pow_pos (by omega)))];simp
theorem u64 {r:Int} {k:Value -> Prop} (h1:0 <= r) (h2:r < 18446744073709551616) (hk:k (.int .u64 r)):EvInt .u64 r k:=uG' r (sE' h1 h2) hk
theorem or8 {x y:Nat} (z:Nat) (hx:x < 256) (hy:y < 256) (hz:x ||| y = z) (h:k (.int .u8 (z:Int)) w):EvRun P (binOp .or t (.int .u8 (x:Int)) (.int .u8 (y:Int))) w k:=by
 subst hz;exact run (tq' hx hy w) h
theorem uQ' {x n:Nat} {j:IntKind} (z:Nat) (hn:n <= 64) (hz:x / 2 ^ n = z) (h:k (.int .u64 (z:Int)) w):EvRun P (binOp .shr t (.int .u64 (x:Int)) (.int j (n:Int))) w k:=by
 subst hz;exact run (oy' hn w) h
theorem u64n {r:Int} {k:Value -> Prop} (z:Nat) (hz:z < 18446744073709551616) (he:r = z) (hk:k (.int .u64 (z:Int))):EvInt .u64 r k:=by
 subst he;exact uG' _ (sE' (by omega) (by omega)) hk
theorem eE' {b o l h cap sz:Nat} (hl:l < cap):sliced (some ⟨b,o,none⟩) l h cap sz = .slice (some ⟨b,o + l * sz,none⟩) (h - l) (cap - l):=by
 simp only [sliced,if_neg (show ¬ cap = l by omega),Option.map_some,db']
theorem bT' {b o h cap sz:Nat}:sliced (some ⟨b,o,none⟩) 0 h cap sz = .slice (some ⟨b,o,none⟩) h cap:=by
 simp only [sliced,Option.map_some,db',Nat.zero_mul,Nat.add_zero,Nat.sub_zero];split <;> rfl
section
variable {τ:Tau} (hτ:au' P τ) {T e sz bs:Nat} (hs:look τ.slcs T = some (e,sz,bs)) {a:Option Addr} {len cap:Nat}
include hτ hs
theorem jQ' {j:IntKind} {i:Int} (l:Nat) (v:Value) (hi:i = l) (hl:l <= len) (hv:sliced a l len cap sz = v) (hk:kq v):EvRunQ P C (Instr.sliceAt T (.slice a len cap) (some (.int j i)) none none) kq:=by
 obtain ⟨hu,hz⟩:=de' hτ hs;subst hi hv;refine qZ' (fun w _=>?_) hk;rw [run_sliceAt_slice w T _ _ _ _ hu,run_slice_l w T a len cap hu j l (by omega) (by omega),hz];simp
theorem tr' {j:IntKind} {i:Int} (h:Nat) (v:Value) (hi:i = h) (hl:h <= cap) (hv:sliced a 0 h cap sz = v) (hk:kq v):EvRunQ P C (Instr.sliceAt T (.slice a len cap) none (some (.int j i)) none) kq:=by
 obtain ⟨hu,hz⟩:=de' hτ hs;subst hi hv;refine qZ' (fun w _=>?_) hk;rw [run_sliceAt_slice w T _ _ _ _ hu,run_slice_h w T a len cap hu j h (by omega) (by omega),hz];simp
theorem fX' {j:IntKind} {i:Int} (l:Nat) (v:Value) (hi:i = l) (hl:l <= len) (hv:sliced a l len cap sz = v) (hk:k v w):EvRun P (Instr.sliceAt T (.slice a len cap) (some (.int j i)) none none) w k:=by
 subst hv;exact slcL hτ hs l hi hl hk
theorem iJ' {j:IntKind} {i:Int} (h:Nat) (v:Value) (hi:i = h) (hl:h <= cap) (hv:sliced a 0 h cap sz = v) (hk:k v w):EvRun P (Instr.sliceAt T (.slice a len cap) none (some (.int j i)) none) w k:=by
 subst hv;exact slcH hτ hs h hi hl hk
end
end
def we' (md:Region.Mode) (ops:Array Oper) (j:Nat):Bool :=
 match ops[j]? with
 | some o=>(List.range ops.size).all fun k=>k == j || o.after.any fun e=>Region.binds md e && e.on == k
 | none=>false
def sG' (P:Program) (md:Region.Mode) (ops:Array Oper) (Q:Exit -> Act -> World -> Prop) (S:World -> Prop):Nat -> Array Bool -> Act -> World -> Prop
 | 0,listed,a,w=>Region.ready md ops listed = [] /\ Q .normal a w
 | fuel + 1,listed,a,w=>(Region.ready md ops listed = [] -> Q .normal a w) /\
  ∀ i ∈ Region.ready md ops listed,wpOp P ops Q i (fun a' w'=>(S w' \/ we' md ops i = true) /\ sG' P md ops Q S fuel (listed.setIfInBounds i true) a' w') a w
section
variable {P:Program} {ops:Array Oper} {Q:Exit -> Act -> World -> Prop} {md:Region.Mode} {S:World -> Prop}
end
@[irreducible] def EvAnyG (P:Program) (n:Nat) (S:World -> Prop) (l:List Oper) (K:Exit -> St -> World -> Prop) (fuel:Nat) (listed:Array Bool) (s:St) (w:World):Prop :=
 ∀ a,Fr n a s -> sG' P .any l.toArray (ow' n K) S fuel listed a w
section
variable {P:Program} {τ:Tau} {n:Nat} {S:World -> Prop} {l:List Oper} {K:Exit -> St -> World -> Prop} {s:St} {w:World}
end
def ts' {α:Type} (R:Rd α):Prop:=∀ (C C':Mem) (cs:List Value) (x:α),R.den C cs x -> R.den C' cs x
theorem flat8:ts' rU8:=fun _ _ _ _ h=>h
theorem gt':ts' rInt:=fun _ _ _ _ h=>h
theorem gh' {α:Type} {R:Rd α} {C:Mem} {b:Nat}:∀ (l:List α) (o:Nat),(∀ i x,l[i]? = some x -> R.At C b (o + i * R.sz) x) -> ∃ css,All2 (R.den C) css l /\ ∀ i x j u,css[i]? = some x -> x[j]? = some u -> C b (o + i * R.sz + j) u
 | [],o,h=>⟨[],trivial,fun i x j u hi=>by simp at hi⟩
 | y :: r,o,h=>by
  obtain ⟨cs,h1,h2⟩:=h 0 y rfl;obtain ⟨css,h3,h4⟩:=gh' r (o + R.sz) (fun i x hi=>by
   have:=h (i + 1) x (by simpa using hi)
   rwa [show o + (i + 1) * R.sz = o + R.sz + i * R.sz by rw [Nat.add_mul]; omega] at this)
  refine ⟨cs :: css,⟨h1,h3⟩,fun i x j u hi hj=>?_⟩
  match i with
  | 0 =>
   simp at hi;subst hi;exact h2 j u hj
  | i + 1 =>
   have:=h4 i x j u (by simpa using hi) hj
   rwa [show o + (i + 1) * R.sz + j = o + R.sz + i * R.sz + j by rw [Nat.add_mul]; omega]
theorem Own.apF {α:Type} {R:Rd α} {e lo:Nat} {w:World} {v:Value} {l:List α} {P:Program} {τ:Tau} (hτ:au' P τ) {T bs:Nat} (hs:look τ.slcs T = some (e,R.sz,bs)) {z:List Value} (hz:τ.zero e = some z) (hsz:0 < R.sz) {k:Value -> World -> Prop} {c ty:Nat} {a:Option Addr}
  (h:Own R e lo w v l) (hf:ts' R) {C:Mem} (hS:Sub C w) (xs:List α) (hx:Sl R C a xs)
  (hbytes:(l.length + xs.length) * bs <= 140737488355328) (h63:l.length + xs.length <= maxLen)
  (hk:∀ v' w',Own R e lo w' v' (l ++ xs) -> Kp v.ownBlock.toList w w' -> (v'.ownBlock = v.ownBlock \/ v'.ownBlock = some w.heap.size) -> k v' w'):EvRun P (Builtin.append_ #[T,T] ty #[v,.slice a xs.length c]) w k:=by
 rcases hx.2 with h0 | ⟨b,o,rfl,h2⟩
 ·have:xs = []:=List.length_eq_zero_iff.1 h0
  subst this;exact h.ap hτ hs hz hsz [] [] rfl trivial (.inl rfl) hbytes h63 hk
 ·obtain ⟨css,h3,h4⟩:=gh' xs o h2
  exact h.ap hτ hs hz hsz xs css rfl (h3.mono fun cs x hx=>hf _ _ _ _ hx) (.inr ⟨b,o,rfl,fun i x j u hi hj=>hS _ _ _ (h4 i x j u hi hj)⟩) hbytes h63 hk
theorem Own.cap {α:Type} {R:Rd α} {e lo:Nat} {w:World} {v:Value} {l:List α} (h:Own R e lo w v l):∃ a cap,v = .slice a l.length cap /\ l.length <= cap:=by
 obtain ⟨css,h1,_⟩:=h.row;rcases h1.2 with ⟨rfl,h0⟩ | ⟨g',cap,cur,rfl,_,_,hn,_⟩
 ·exact ⟨none,0,by rw [h0],by omega⟩
 ·exact ⟨_,cap,rfl,hn⟩
theorem Own.kpl {α:Type} {R:Rd α} {e lo:Nat} {w w':World} {v:Value} {l:List α} {X:List Nat} (h:Own R e lo w v l) (k:Kp X w w') (hx:∀ x ∈ X,x < lo):Own R e lo w' v l:=by
 have hb:=h.block;obtain ⟨⟨css,h1,h2⟩,h3⟩:=h;refine ⟨⟨css,ox' h1 k fun g hg hgx=>?_,h2.mono fun cs x hx'=>R.mono (fun b o u hu=>⟨hu.1,hu.2.1,hu.2.2.kp k fun hb=>?_⟩) hx'⟩,KQ h3 k.size⟩
 ·have:=hx g hgx; have:=(hb g hg).1; omega
 ·have:=hx b hb; have:=hu.1; omega
theorem Sub.lt {C:Mem} {w:World} (h:Sub C w):∀ b o v,C b o v -> b < w.heap.size:=fun b o v hc=>(h b o v hc).lt
theorem ll' {P:Program} {τ:Tau} (hτ:au' P τ) {T:Nat} {fs:List (Nat × Nat × Bool)} {z:List Nat} (hr:look τ.tab T = some (fs,z)) {b:Nat} {w:World} {K:Value -> Prop} (cs:List Value) (hl:cs.length = z.length) (hc:∀ j v,cs[j]? = some v -> Cl w.heap b j v) (hk:K (.agg cs.toArray)) :
  EvRun P (loadVar T ⟨b,0,none⟩) w fun v w'=>w' = w /\ K v:=by
 obtain ⟨gs,hu,hfs,hinf,i,hi,hsz,hz⟩:=hτ.tab T fs z hr;have:=run_loadCells_list (P:=P) (w:=w) ⟨b,0,none⟩ cs (fun j v hj=>by rw [db',KW]; exact (hc j v hj).cell);rw [hl] at this;refine run (v:=.agg cs.toArray) (w':=w) ?_ ⟨rfl,hk⟩;simp [loadVar,isAgg,run_underlying hu,sizeOf,typeInfo,hi,hsz,this]
theorem oz' {w4 w5 w7:World} {lo:Nat} {v:Value} {α:Type} {R:Rd α} {e:Nat} {l:List α} (hO:Own R e lo w4 v l) (k:Kp [] w5 w7):∀ b o u,New w4.heap.size w5 b o u -> Dn lo v w7 b o u:=fun b o u hu =>
 ⟨KQ hO.low hu.1,fun e=>by have:=(hO.block b e.symm).2; have:=hu.1; omega,hu.2.kp k (by simp)⟩
theorem Kp.ownX {α:Type} {R:Rd α} {e:Nat} {w0 w w':World} {v:Value} {l:List α} {X:List Nat} (k0:Kp X w0 w) (k:Kp v.ownBlock.toList w w') (h:Own R e w0.heap.size w v l):Kp X w0 w' :=
 k0.trans k fun x hx hl=>by
  have hx:v.ownBlock = some x:=by simpa using hx
  have:=(h.block x hx).1;omega
theorem nz' {P:Program} {τ:Tau} (hτ:au' P τ) {T e sz bs:Nat} (hs:look τ.slcs T = some (e,sz,bs)) {x y:Operand} {a:Option Addr} {n c:Nat} {w:World} {k:Value -> World -> Prop} (h:k (.bool a.isNone) w) :
  EvRun P (do eqGuard .eql T x y (.slice a n c) (.slice none 0 0); binOp .eql T (.slice a n c) (.slice none 0 0)) w k:=by
 obtain ⟨hu,_⟩:=hτ.slcs T e sz bs hs;refine run (v:=.bool a.isNone) ?_ h;rw [eqGuard_at_slice];simp only [Sem.run_bind,Sem.run_pure,Result.andThen_ok];exact Lib.run_eql_slice_nil w T e a n c 0 0 hu
theorem iK' {α:Type} {k:Nat}:∀ (css:List (List α)),(∀ cs ∈ css,cs.length = k) -> ∀ (i j:Nat) (cs:List α) (u:α),css[i]? = some cs -> j < k -> (css.set i (cs.set j u)).flatten = css.flatten.set (i * k + j) u
 | [],_,i,j,cs,u,h1,_=>by simp at h1
 | c :: r,h,0,j,cs,u,h1,h2=>by
  simp at h1;subst h1;have hc:=h c (by simp);rw [List.set_cons_zero,List.flatten_cons,List.flatten_cons,Nat.zero_mul,KW,List.set_append_left _ _ (by omega)]
 | c :: r,h,i + 1,j,cs,u,h1,h2=>by
  have hc:=h c (by simp);have:=iK' r (fun c hc=>h c (by simp [hc])) i j cs u (by simpa using h1) h2;rw [List.set_cons_succ,List.flatten_cons,List.flatten_cons,this,List.set_append_right _ _ (by rw [hc,Nat.add_mul]; omega)];rw [show (i + 1) * k + j - c.length = i * k + j by rw [hc,Nat.add_mul]; omega]
theorem All2.set {α β:Type} {p:β -> α -> Prop} {b:β} {a:α} (h0:p b a):∀ {l:List β} {m:List α} {i:Nat},All2 p l m -> All2 p (l.set i b) (m.set i a)
 | [],[],_,_=>trivial
 | _ :: _,_ :: _,0,h=>⟨h0,h.2⟩
 | _ :: _,_ :: _,i + 1,h=>⟨h.1,All2.set h0 h.2⟩
 | [],_ :: _,_,h=>h.elim
 | _ :: _,[],_,h=>h.elim
theorem Own.st {α:Type} {R:Rd α} {e lo:Nat} {w:World} {v:Value} {l:List α} (h:Own R e lo w v l) {i j:Nat} {x y:α} (hi:l[i]? = some x) (hj:j < R.sz) {u:Value} (hu:u.oneCell' = true)
  (hy:∀ cs,R.den (Dn lo v w) cs x -> R.den (Dn lo v w) (cs.set j u) y) :
  ∃ g cap,v = .slice (some ⟨g,0,none⟩) l.length cap /\ lo <= g /\
   ∀ {K:World -> Prop},(∀ w',Own R e lo w' v (l.set i y) -> w'.heap.size = w.heap.size -> Kp [g] w w' -> K w') -> EvSt w ⟨g,0 + i * R.sz + j,none⟩ u K:=by
 obtain ⟨⟨css,h1,h2⟩,h3⟩:=h;have hil:=ai' hi;have hlen:=h2.length;have hk:∀ cs ∈ css,cs.length = R.sz:=by
  intro cs hcs;obtain ⟨i,hi⟩:=JH hcs;have hil:=(List.getElem?_eq_some_iff.1 hi).1;obtain ⟨cs',h4,h5⟩:=h2.get (i:=i) (a:=l[i]'(by omega)) (by simp);rw [hi] at h4;obtain rfl:=JB h4;exact R.len h5
 rcases h1 with ⟨hl1,⟨rfl,h0⟩ | ⟨g,cap,cur,rfl,hb,hg,hn,hm,hc,ht⟩⟩
 ·omega
 refine ⟨g,cap,rfl,hb,fun {K} hK=>?_⟩;obtain ⟨cs,hcs,hden⟩:=h2.get hi;have hB:Bk w.heap g cur.toList e:=by unfold Bk; simpa using hg
 have hlt:i * R.sz + j < l.length * R.sz:=by
  have:(i + 1) * R.sz <= l.length * R.sz:=Nat.mul_le_mul_right _ (by omega);rw [Nat.add_mul] at this;omega
 have hle:l.length * R.sz <= cap * R.sz:=Nat.mul_le_mul_right _ hn;rw [KW];refine Go.Wx.st hB (by simp; omega) hu fun w' hB' hs hkp=>hK w' ?_ hs hkp;refine ⟨⟨css.set i (cs.set j u),⟨?_,.inr ⟨g,cap,(cur.toList.set (i * R.sz + j) u).toArray,by simp,hb,?_,by simpa using hn,hm,by simp [hc],?_⟩⟩,?_⟩,by omega⟩
 ·rw [iK' css hk i j cs u hcs hj]
  simpa using hl1
 ·simpa [Bk] using hB'
 ·rw [iK' css hk i j cs u hcs hj]
  simp only [List.length_set];rw [List.take_set,ht]
 ·have step:∀ b o u,Dn lo (.slice (some ⟨g,0,none⟩) l.length cap) w b o u -> Dn lo (.slice (some ⟨g,0,none⟩) l.length cap) w' b o u:=fun b o u hu=>⟨hu.1,hu.2.1,hu.2.2.kp hkp (by
   have h:=hu.2.1;simp [Value.ownBlock] at h
   simpa using h)⟩
  exact All2.set (R.mono step (hy cs hden)) (h2.mono fun cs x hx=>R.mono step hx)
def uR' (j:IntKind) (B:Nat):Rd Nat where
 sz:=1
 den _ cs x:=cs = [.int j (x:Int)] /\ x < B
 len:=by rintro _ cs x ⟨rfl,_⟩; rfl
 mono:=by rintro _ _ cs x _ h; exact h
 one:=by rintro _ cs x ⟨rfl,_⟩ u hu; simp at hu; subst hu; rfl
theorem Sl.nat {j:IntKind} {B:Nat} {C:Mem} {a:Option Addr} {l:List Nat} (h:Sl (uR' j B) C a l) {i x:Nat} (hi:l[i]? = some x):∃ b o,a = some ⟨b,o,none⟩ /\ C b (o + i * 1) (.int j (x:Int)) /\ x < B:=by
 obtain ⟨b,o,ha,hc⟩:=h.at (List.getElem?_eq_some_iff.1 hi).1;obtain ⟨cs,⟨rfl,h64⟩,h2⟩:=hc i x hi;exact ⟨b,o,ha,h2 0 _ rfl,h64⟩
theorem Sl.dig {j:IntKind} {B:Nat} {C:Mem} {a:Option Addr} {l:List Nat} (h:Sl (uR' j B) C a l):∀ d ∈ l,d < B:=fun d hd=>by
 obtain ⟨i,hi⟩:=JH hd;obtain ⟨_,_,_,_,h⟩:=h.nat hi;exact h
def RowN (j:IntKind) (h:Array Obj) (b:Nat) (l:List Nat) (T:TypeId):Prop:=Bk h b (l.map fun x:Nat=>Value.int j (x:Int)) T
section
variable {j:IntKind} {T:TypeId} {b:Nat} {l:List Nat}
theorem RowN.lt {h:Array Obj} (hb:RowN j h b l T):b < h.size:=Bk.lt hb
theorem RowN.sl {w:World} {B lo:Nat} (hb:RowN j w.heap b l T) (hd:∀ d ∈ l,d < B) (hl:l.length <= 1099511627776) (hlo:lo <= b):Sl (uR' j B) (New lo w) (some ⟨b,0,none⟩) l:=by
 refine ⟨hl,.inr ⟨b,0,rfl,fun i x hx=>⟨[.int j (x:Int)],⟨rfl,hd x (JQ hx)⟩,fun k v hk=>⟨hlo,?_⟩⟩⟩⟩
 match k,hk with
 | 0,hk =>
  obtain rfl:=JB hk;refine Bk.cu hb ?_;show (l.map fun x:Nat=>Value.int j (x:Int))[0 + i * 1 + 0]? = _;rw [show 0 + i * 1 + 0 = i by omega,JX,hx]
  rfl
theorem RowN.rep {h:Array Obj} {n:Nat} (hb:Bk h b (rep [.int j 0] n) T):RowN j h b (List.replicate n 0) T:=by
 unfold RowN;rw [List.map_replicate];rw [lj'] at hb;exact hb
theorem Sl.takeN {α:Type} {R:Rd α} {C:Mem} {a:Option Addr} {l:List α} (h:Sl R C a l) (k:Nat):Sl R C a (l.take k):=by
 refine ⟨by have:=h.1; simp; omega,?_⟩;rcases h.2 with h0 | ⟨b',o',e,hc⟩
 ·left; rw [List.length_take]; omega
 ·refine .inr ⟨b',o',e,fun i x hi=>?_⟩
  rw [List.getElem?_take] at hi;split at hi
  ·exact hc i x hi
  ·cases hi
theorem Sl.dropN {α:Type} {R:Rd α} {C:Mem} {b o:Nat} {l:List α} (h:Sl R C (some ⟨b,o,none⟩) l) (k:Nat):Sl R C (some ⟨b,o + k * R.sz,none⟩) (l.drop k):=by
 refine ⟨by have:=h.1; rw [List.length_drop]; omega,?_⟩;rcases h.2 with h0 | ⟨b',o',e,hc⟩
 ·left; rw [List.length_drop]; omega
 ·have e:=JB e
  injection e with e1 e2
  subst e1 e2;refine .inr ⟨_,_,rfl,fun i x hi=>?_⟩;rw [List.getElem?_drop] at hi;have:=hc _ _ hi
  rwa [Nat.add_mul,<- Nat.add_assoc] at this
end
theorem uS' {P:Program} {τ:Tau} (hτ:au' P τ) {T e bs:Nat} (hs:look τ.slcs T = some (e,1,bs)) {ty g dl dc sl sc:Nat} {w:World} {k:Value -> World -> Prop} {j:IntKind} {l:List Nat} {C:Mem} {a:Option Addr} {B:Nat} (xs:List Nat) (hb:RowN j w.heap g l e) (hdl:dl = l.length) (hC:Sub C w)
  (hx:Sl (uR' j B) C a xs) (hsl:sl = xs.length)
  (h:∀ w',RowN j w'.heap g (xs.take l.length ++ l.drop xs.length) e -> w'.heap.size = w.heap.size -> Kp [g] w w' -> k (iV (min xs.length l.length:Nat)) w'):EvRun P (Builtin.copy_ #[T,T] ty #[.slice (some ⟨g,0,none⟩) dl dc,.slice a sl sc]) w k:=by
 obtain ⟨hu,inf,hinf,hsize,hbs⟩:=hτ.slcs T e 1 bs hs;subst hdl hsl;have hxl:(xs.take l.length).length = min xs.length l.length:=by rw [List.length_take]; omega
 have hg:g < w.heap.size:=RowN.lt hb;cases a with
 | none =>
  have h0:xs = []:=by
   rcases hx.2 with h | ⟨_,_,h,_⟩
   ·exact List.length_eq_zero_iff.1 h
   ·cases h
  subst h0;refine run (v:=iV 0) (w':=w) ?_ (h w (by simpa using hb) rfl (Kp.refl _ _));cases hq:P.info? e with
  | none=>rw [hq] at hinf; cases hinf
  | some i=>simp [Builtin.copy_,run_underlying hu,Builtin.lenOf,Builtin.firstCells,sizeOf,typeInfo,hq,storeCells,goInt]
 | some ad =>
  have hsrc:∀ (i:Nat) v,((xs.take l.length).map fun x:Nat=>Value.int j (x:Int))[i]? = some v -> w.cell? (ad.add i) = some v:=fun i v hi=>by
   rw [JX] at hi;cases hxi:(xs.take l.length)[i]? with
   | none=>rw [hxi] at hi; cases hi
   | some x =>
    rw [hxi] at hi;have hi:Value.int j (x:Int) = v:=by simpa using hi
    subst hi;rw [List.getElem?_take] at hxi;split at hxi
    ·obtain ⟨b,o,e1,hc,_⟩:=hx.nat hxi
     obtain rfl:=JB e1;rw [db'];have:=(hC _ _ _ hc).cell
     rwa [Nat.mul_one] at this
    ·cases hxi
  have hr:=run_copy_row (P:=P) w T T ty e g 0 l.length dc ad xs.length sc ((l.map fun x:Nat=>Value.int j (x:Int)).toArray) e ((xs.take l.length).map fun x:Nat=>Value.int j (x:Int)) hu (by simp [hinf,hsize]) hb (by rw [List.length_map,hxl]) hsrc (by simp; omega) (fun v hv=>by obtain ⟨x,_,rfl⟩:=List.mem_map.1 hv; rfl);refine run hr ?_;have e1:goInt ((xs.take l.length).map fun x:Nat=>Value.int j (x:Int)).length = iV (min xs.length l.length:Nat):=by rw [List.length_map,hxl]; rfl
  rw [e1];refine h _ ?_ (by simp [World.setRow]) ⟨rfl,rfl,rfl,by simp [World.setRow],fun i hi hx=>?_⟩
  ·have hb':w.heap[g]? = some (.cells (l.map fun x:Nat=>Value.int j (x:Int)).toArray e (0,0)):=hb
   unfold RowN Bk;simp only [World.setRow,Array.getElem?_modify,if_true,hb'];have e2:min l.length xs.length + (l.length - xs.length) = l.length:=by omega
   by_cases hle:xs.length <= l.length
   ·simp [List.map_append,List.map_take,List.map_drop,Nat.min_eq_left hle,Nat.min_eq_right hle]
   ·simp [List.map_append,List.map_take,List.map_drop,Nat.min_eq_left (Nat.le_of_not_le hle),List.drop_of_length_le (show l.length <= xs.length by omega)]
  ·have hx:i ≠ g:=by simpa using hx
   simp only [World.setRow,Array.getElem?_modify];rw [if_neg (fun e=>hx e.symm)]
section
variable {P:Program} {k:Value -> World -> Prop} {kq:Value -> Prop} {C:World -> Prop} {t:TypeId} {w:World}
theorem tt' (x:Int):IntKind.wrap .u32 x = x % 4294967296:=by
 simp only [IntKind.wrap,IntKind.bits,IntKind.signed];simp
theorem u32m {r:Nat} {k:Value -> Prop} (z:Nat) (hz:r % 4294967296 = z) (hk:k (.int .u32 (z:Int))):EvInt .u32 (r:Int) k:=by
 subst hz;exact uG' _ (by rw [tt']; omega) hk
theorem i64n {r:Int} {k:Value -> Prop} (z:Int) (h1:-9223372036854775808 <= z) (h2:z <= 9223372036854775807) (he:r = z) (hk:k (iV z)):EvInt .i64 r k:=by
 subst he;exact ot' h1 h2 hk
end
theorem jR' {α:Type} {sz:Nat}:∀ {css:List (List α)} (k:Nat),(∀ cs ∈ css,cs.length = sz) -> (css.take k).flatten = css.flatten.take (k * sz)
 | [],k,_=>by simp
 | c :: css,0,_=>by simp
 | c :: css,k + 1,h=>by
  have hc:=h c (by simp);rw [List.take_succ_cons,List.flatten_cons,List.flatten_cons,jR' k fun x hx=>h x (by simp [hx]),show (k + 1) * sz = c.length + k * sz by rw [hc,Nat.add_mul]; omega,List.take_length_add_append]
theorem All2.take {α β:Type} {p:β -> α -> Prop}:∀ {l:List β} {m:List α} (k:Nat),All2 p l m -> All2 p (l.take k) (m.take k)
 | [],[],k,h=>by simp [All2]
 | [],_ :: _,k,h=>h.elim
 | _ :: _,[],k,h=>h.elim
 | b :: l,a :: m,0,h=>trivial
 | b :: l,a :: m,k + 1,h=>⟨h.1,All2.take k h.2⟩
theorem Own.take {α:Type} {R:Rd α} {e lo:Nat} {w:World} {a:Option Addr} {n c k:Nat} {l:List α} (h:Own R e lo w (.slice a n c) l) (hk:k <= l.length):Own R e lo w (.slice a k c) (l.take k):=by
 obtain ⟨⟨css,h1,h2⟩,h3⟩:=h;have hlen:=h2.length;have hcs:∀ cs ∈ css,cs.length = R.sz:=by
  intro cs hcs;obtain ⟨i,hi⟩:=JH hcs;have hil:=(List.getElem?_eq_some_iff.1 hi).1;obtain ⟨cs',h4,h5⟩:=h2.get (i:=i) (a:=l[i]'(by omega)) (by simp);rw [hi] at h4;obtain rfl:=JB h4;exact R.len h5
 have e1:(css.take k).flatten = css.flatten.take (k * R.sz):=jR' k hcs;have hkl:(l.take k).length = k:=by rw [List.length_take]; omega
 have hown:Value.ownBlock (.slice a k c) = Value.ownBlock (.slice a n c):=by cases a <;> rfl
 have hD:∀ b o u,Dn lo (.slice a n c) w b o u -> Dn lo (.slice a k c) w b o u:=fun b o u hu=>⟨hu.1,by rw [hown]; exact hu.2.1,hu.2.2⟩
 refine ⟨⟨css.take k,⟨?_,?_⟩,(h2.take k).mono fun cs x hx=>R.mono hD hx⟩,h3⟩
 ·rw [e1,List.length_take,h1.1,hkl]
  have:k * R.sz <= l.length * R.sz:=Nat.mul_le_mul_right _ hk;omega
 ·rcases h1.2 with ⟨hv,h0⟩ | ⟨g,cap,cur,hv,hb,hg,hn,hm,hc,ht⟩
  ·injection hv with v1 v2 v3
   subst v1 v2 v3;have:k = 0:=by omega
   subst this;exact .inl ⟨rfl,by simp⟩
  ·injection hv with v1 v2 v3
   subst v1 v2 v3;refine .inr ⟨g,c,cur,by rw [hkl],hb,hg,by omega,hm,hc,?_⟩;rw [e1,<- ht,List.take_take,hkl,Nat.min_eq_left (Nat.mul_le_mul_right _ hk)]
end Go.Wx
namespace Nm
def val (B:Nat):List Nat -> Nat
 | []=>0
 | d :: r=>d + B * val B r
def hT' (B n:Nat):List Nat:=if h:n = 0 \/ B < 2 then [] else n % B :: hT' B (n / B)
termination_by n
decreasing_by exact Nat.div_lt_self (by omega) (by omega)
def cut (l:List Nat):List Nat:=(l.reverse.dropWhile (· == 0)).reverse
def Dig (B:Nat) (l:List Nat):Prop:=∀ d ∈ l,d < B
section
variable {B:Nat}
theorem eF':hT' B 0 = []:=by rw [hT']; simp
theorem iL' (hB:2 <= B) {n:Nat} (h:n ≠ 0):hT' B n = n % B :: hT' B (n / B):=by
 rw [hT'];rw [dif_neg (by omega)]
theorem mn' (hB:2 <= B) (n:Nat):Dig B (hT' B n):=by
 induction n using Nat.strongRecOn with
 | _ n ih =>
  by_cases h:n = 0
  ·subst h; rw [eF']; intro d hd; cases hd
  ·rw [iL' hB h]
   intro d hd;rcases List.mem_cons.1 hd with rfl | hd
   ·exact Nat.mod_lt _ (by omega)
   ·exact ih _ (Nat.div_lt_self (by omega) (by omega)) d hd
theorem mo' (hB:0 < B):∀ {l:List Nat},val B l = 0 -> ∀ d ∈ l,d = 0
 | [],_,d,hd=>by cases hd
 | x :: l,h,d,hd=>by
  simp only [val] at h;have h1:x = 0:=by omega
  have h2:val B l = 0:=by
   have:B * val B l = 0:=by omega
   rcases Nat.mul_eq_zero.1 this with h | h
   ·omega
   ·exact h
  rcases List.mem_cons.1 hd with rfl | hd
  ·exact h1
  ·exact mo' hB h2 d hd
theorem gu' (l:List Nat):cut (l ++ [0]) = cut l:=by unfold cut; rw [List.reverse_append]; rfl
theorem hG' (l:List Nat) {d:Nat} (h:d ≠ 0):cut (l ++ [d]) = l ++ [d]:=by simp [cut,List.dropWhile,h]
theorem iM':cut [] = []:=rfl
theorem fG' {d:Nat} {l:List Nat} (h:cut l ≠ []):cut (d :: l) = d :: cut l:=by
 unfold cut at h ⊢;rw [List.reverse_cons,List.dropWhile_append];split
 ·rename_i h0
  exfalso;apply h;have:l.reverse.dropWhile (· == 0) = []:=by simpa using h0
  rw [this]; rfl
 ·simp
theorem dA' {d:Nat} {l:List Nat} (h:cut l = []):cut (d :: l) = if d = 0 then [] else [d]:=by
 unfold cut at h ⊢;have h0:l.reverse.dropWhile (· == 0) = []:=by simpa using h
 rw [List.reverse_cons,List.dropWhile_append,h0]
 by_cases hd:d = 0
 ·simp [hd]
 ·simp [hd]
theorem gv' (hB:0 < B) {l:List Nat}:cut l = [] ↔ val B l = 0:=by
 induction l with
 | nil=>simp [iM',val]
 | cons d l ih =>
  constructor
  ·intro h
   by_cases hl:cut l = []
   ·rw [dA' hl] at h
    split at h
    ·rename_i hd; subst hd; simp [val,ih.1 hl]
    ·cases h
   ·rw [fG' hl] at h; cases h
  ·intro h
   simp only [val] at h;have hd:d = 0:=by omega
   have:B * val B l = 0:=by omega
   have hl:val B l = 0:=by
    rcases Nat.mul_eq_zero.1 this with h | h
    ·omega
    ·exact h
   rw [dA' (ih.2 hl),if_pos hd]
theorem mp' (hB:2 <= B) {l:List Nat} (h:Dig B l):hT' B (val B l) = cut l:=by
 induction l with
 | nil=>simp [val,eF',iM']
 | cons d l ih =>
  have hd:=h d (by simp);have hl:Dig B l:=fun x hx=>h x (by simp [hx]);have ih:=ih hl
  by_cases h0:val B (d :: l) = 0
  ·rw [h0,eF',(gv' (by omega)).2 h0]
  ·rw [iL' hB h0]
   have e1:(val B (d :: l)) % B = d:=by
    simp only [val]; rw [Nat.add_mul_mod_self_left,Nat.mod_eq_of_lt hd]
   have e2:(val B (d :: l)) / B = val B l:=by
    simp only [val]; rw [Nat.add_mul_div_left _ _ (by omega),Nat.div_eq_of_lt hd,KW]
   rw [e1,e2,ih]
   by_cases hc:cut l = []
   ·rw [dA' hc,hc]
    have:val B l = 0:=(gv' (by omega)).1 hc;have hd0:d ≠ 0:=fun e=>h0 (by simp [val,e,this]);rw [if_neg hd0]
   ·rw [fG' hc]
theorem jS' (hB:2 <= B) {n:Nat}:hT' B n = [] ↔ n = 0:=by
 constructor
 ·intro h
  by_cases h0:n = 0
  ·exact h0
  ·rw [iL' hB h0] at h; cases h
 ·rintro rfl; exact eF'
end
end Nm
namespace Cd
open Go Go.Wx
structure Nd where
 op:Int
 a:Int
 b:Int
def rNd:Rd Nd where
 sz:=3
 den C cs x:=cs = [iV x.op,iV x.a,iV x.b] /\ I64 x.op /\ I64 x.a /\ I64 x.b
 len:=by rintro C cs x ⟨rfl,_⟩; rfl
 mono:=by rintro C C' cs x hc h; exact h
 one:=by rintro C cs x ⟨rfl,_⟩ u hu; simp at hu; rcases hu with rfl | rfl | rfl <;> rfl
theorem dB' {C:Mem} {a:Option Addr} {l:List Nd} (h:Sl rNd C a l) {i:Nat} {x:Nd} (hi:l[i]? = some x):∃ b o,a = some ⟨b,o,none⟩ /\ I64 x.op /\ I64 x.a /\ I64 x.b /\
  ∀ j v,[iV x.op,iV x.a,iV x.b][j]? = some v -> C b (o + i * 3 + j) v:=by
 obtain ⟨b,o,ha,hc⟩:=h.at (ai' hi)
 obtain ⟨cs,⟨rfl,h2,h3,h4⟩,h5⟩:=hc i x hi;exact ⟨b,o,ha,h2,h3,h4,h5⟩
def rSk {α:Type} (R:Rd α):Rd (List α) where
 sz:=1
 den C cs l:=∃ a cap,cs = [.slice a l.length cap] /\ l.length <= cap /\ Sl R C a l
 len:=by rintro C cs x ⟨a,cap,rfl,_⟩; rfl
 mono:=by rintro C C' cs x hc ⟨a,cap,rfl,h',h⟩; exact ⟨a,cap,rfl,h',h.mono hc⟩
 one:=by rintro C cs x ⟨a,cap,rfl,_⟩ u hu; simp at hu; subst hu; rfl
theorem _root_.Go.Wx.Sl.sk {α:Type} {R:Rd α} {C:Mem} {a:Option Addr} {l:List (List α)} (h:Sl (rSk R) C a l) {i:Nat} {x:List α} (hi:l[i]? = some x) :
  ∃ b o,a = some ⟨b,o,none⟩ /\ ∃ a' cap,C b (o + i * 1) (.slice a' x.length cap) /\ x.length <= cap /\ Sl R C a' x:=by
 obtain ⟨b,o,ha,hc⟩:=h.at (ai' hi)
 obtain ⟨cs,⟨a',cap,rfl,hl,hs⟩,h2⟩:=hc i x hi;exact ⟨b,o,ha,a',cap,h2 0 _ rfl,hl,hs⟩
theorem _root_.Go.Wx.Sl.of_sk {α:Type} {R:Rd α} {C:Mem} {a:Option Addr} {l:List (List α)} (h:Sl (rSk R) C a l):Sl (rSl R) C a l:=by
 refine ⟨h.1,?_⟩;rcases h.2 with h0 | ⟨b,o,h1,h2⟩
 ·exact .inl h0
 ·refine .inr ⟨b,o,h1,fun i x hx=>?_⟩
  obtain ⟨cs,⟨a',cap,rfl,hl,hs⟩,h3⟩:=h2 i x hx;exact ⟨_,⟨a',cap,rfl,hs⟩,h3⟩
theorem _root_.Go.Wx.Sl.from {α:Type} {R:Rd α} {C:Mem} {a:Option Addr} {l:List α} (h:Sl R C a l) {cap:Nat} (hc:l.length <= cap) (k:Nat) (hk:k <= l.length) :
  ∃ a',sliced a k l.length cap R.sz = .slice a' (l.drop k).length (cap - k) /\ Sl R C a' (l.drop k):=by
 rcases h.2 with h0 | ⟨b,o,rfl,h2⟩
 ·have:l = []:=List.length_eq_zero_iff.1 h0
  subst this;refine ⟨_,by simp only [sliced,List.drop_nil,JU,Nat.zero_sub]; rfl,?_⟩;rw [List.drop_nil];exact Sl.nil _ _ _
 ·by_cases he:cap = k
  ·have e0:l.drop k = []:=JY (by omega)
   refine ⟨_,by simp only [sliced,List.length_drop]; rfl,?_⟩;rw [e0];exact Sl.nil _ _ _
  ·refine ⟨some ⟨b,o + k * R.sz,none⟩,?_,by have:=h.1; rw [List.length_drop]; omega,.inr ⟨b,o + k * R.sz,rfl,fun i x hi=>?_⟩⟩
   ·rw [List.length_drop]
    exact eE' (by omega)
   ·rw [List.getElem?_drop] at hi
    have:=h2 _ _ hi
    rwa [Nat.add_mul,<- Nat.add_assoc] at this
theorem fH' {C:World -> Prop} {b o n:Nat} {k:Value -> Prop} (cs:List Value) (hn:cs.length = n) (h:∀ w,C w -> ∀ j v,cs[j]? = some v -> Cl w.heap b (o + j) v) (hk:k (.agg cs.toArray)):EvLdNQ C ⟨b,o,none⟩ n k:=by
 unfold EvLdNQ;refine ⟨cs,hn,fun w' hw j v hj=>?_,hk⟩;have:=(h w' hw j v hj).cell;unfold Addr.add;split
 ·rename_i h0
  subst h0
  simpa using this
 ·exact this
inductive Tr where
 | mk (n:Nd) (ks:List Tr)
def Tr.n:Tr -> Nd
 | .mk n _=>n
def Tr.ks:Tr -> List Tr
 | .mk _ ks=>ks
mutual
def row:Tr -> List Nd
 | .mk n ks=>n :: rows ks
def rows:List Tr -> List Nd
 | []=>[]
 | x :: r=>row x ++ rows r
end
theorem ag' (x:Tr):0 < (row x).length:=by
 cases x;simp [row]
theorem aA':∀ (l m:List Tr),rows (l ++ m) = rows l ++ rows m
 | [],m=>rfl
 | x :: r,m=>by simp [rows,aA' r m]
section
variable {σ:Type} (cnt:σ -> Nd -> Option Nat) (nx:σ -> Nd -> Nat -> σ)
def kidsL (p:σ -> List Nd -> Option (Tr × List Nd)) (g:Nat -> σ):Nat -> Nat -> List Nd -> Option (List Tr × List Nd)
 | _,0,r=>some ([],r)
 | k,c + 1,r=>match p (g k) r with
  | none=>none
  | some (x,r')=>match kidsL p g (k + 1) c r' with
   | none=>none
   | some (xs,r'')=>some (x :: xs,r'')
def aF':Nat -> σ -> List Nd -> Option (Tr × List Nd)
 | 0,_,_=>none
 | _ + 1,_,[]=>none
 | f + 1,s,n :: r=>match cnt s n with
  | none=>none
  | some c=>match kidsL (aF' f) (nx s n) 0 c r with
   | none=>none
   | some (ks,r')=>some (.mk n ks,r')
mutual
def okT:Tr -> σ -> Prop
 | .mk n ks,s=>cnt s n = some ks.length /\ okL ks n s 0
def okL:List Tr -> Nd -> σ -> Nat -> Prop
 | [],_,_,_=>True
 | x :: r,n,s,k=>okT x (nx s n k) /\ okL r n s (k + 1)
end
variable {cnt nx}
theorem hU' {p:σ -> List Nd -> Option (Tr × List Nd)} {n:Nd} {s:σ} (hp:∀ s t x r,p s t = some (x,r) -> t = row x ++ r /\ okT cnt nx x s):∀ (c k:Nat) (t:List Nd) (ks:List Tr) (r:List Nd),kidsL p (nx s n) k c t = some (ks,r) -> t = rows ks ++ r /\ ks.length = c /\ okL cnt nx ks n s k
 | 0,k,t,ks,r,h=>by
  simp only [kidsL,Option.some.injEq,Prod.mk.injEq] at h;obtain ⟨rfl,rfl⟩:=h;exact ⟨rfl,rfl,trivial⟩
 | c + 1,k,t,ks,r,h=>by
  simp only [kidsL] at h;split at h
  ·cases h
  rename_i x r' hx;split at h
  ·cases h
  rename_i xs r'' hxs;simp only [Option.some.injEq,Prod.mk.injEq] at h;obtain ⟨rfl,rfl⟩:=h;obtain ⟨h1,h2⟩:=hp _ _ _ _ hx;obtain ⟨h3,h4,h5⟩:=hU' hp c (k + 1) r' xs r'' hxs;exact ⟨by rw [h1,h3]; simp [rows],by simp [h4],h2,h5⟩
theorem cm':∀ (f:Nat) (s:σ) (t:List Nd) (x:Tr) (r:List Nd),aF' cnt nx f s t = some (x,r) -> t = row x ++ r /\ okT cnt nx x s
 | 0,s,t,x,r,h=>by simp [aF'] at h
 | f + 1,s,[],x,r,h=>by simp [aF'] at h
 | f + 1,s,n :: t,x,r,h=>by
  simp only [aF'] at h;split at h
  ·cases h
  rename_i c hc;split at h
  ·cases h
  rename_i ks r' hk;simp only [Option.some.injEq,Prod.mk.injEq] at h;obtain ⟨rfl,rfl⟩:=h;obtain ⟨h1,h2,h3⟩:=hU' (cm' f) c 0 t ks r' hk;exact ⟨by rw [h1]; simp [row],by rw [hc,h2],h3⟩
mutual
theorem eG':∀ (x:Tr) (f:Nat) (s:σ) (r:List Nd),(row x).length <= f -> okT cnt nx x s -> aF' cnt nx f s (row x ++ r) = some (x,r)
 | .mk n ks,0,s,r,hf,_=>by simp [row] at hf
 | .mk n ks,f + 1,s,r,hf,h=>by
  obtain ⟨h1,h2⟩:=h;have:=mq' ks f n s 0 r (by simpa [row] using hf) h2;simp only [row,List.cons_append,aF',h1,this]
theorem mq':∀ (ks:List Tr) (f:Nat) (n:Nd) (s:σ) (k:Nat) (r:List Nd),(rows ks).length <= f -> okL cnt nx ks n s k -> kidsL (aF' cnt nx f) (nx s n) k ks.length (rows ks ++ r) = some (ks,r)
 | [],f,n,s,k,r,_,_=>rfl
 | x :: l,f,n,s,k,r,hf,h=>by
  obtain ⟨h1,h2⟩:=h;simp only [rows,JK] at hf;have e1:=eG' x f (nx s n k) (rows l ++ r) (by omega) h1;have e2:=mq' l f n s (k + 1) r (by omega) h2;simp only [rows,List.append_assoc,JV,kidsL,e1,e2]
end
theorem eH' {f:Nat} {s:σ} {t:List Nd} {x:Tr} {r:List Nd} (h:aF' cnt nx f s t = some (x,r)):t.length = (row x).length + r.length:=by
 rw [(cm' f s t x r h).1,JK]
theorem nA' {f g:Nat} {s:σ} {t:List Nd} (hf:t.length <= f) (hg:t.length <= g):aF' cnt nx f s t = aF' cnt nx g s t:=by
 cases h:aF' cnt nx f s t with
 | some p =>
  obtain ⟨x,r⟩:=p;obtain ⟨h1,h2⟩:=cm' _ _ _ _ _ h;subst h1;exact (eG' x g s r (by simp at hg; omega) h2).symm
 | none =>
  cases h':aF' cnt nx g s t with
  | none=>rfl
  | some p =>
   obtain ⟨x,r⟩:=p;obtain ⟨h1,h2⟩:=cm' _ _ _ _ _ h';subst h1;rw [eG' x f s r (by simp at hf; omega) h2] at h;cases h
theorem rb' {f:Nat} {s:σ} {t:List Nd} {a:Nat} (ha:a <= t.length) {x:Tr} {r:List Nd} (h:aF' cnt nx f s (t.drop a) = some (x,r)):r = t.drop (t.length - r.length) /\ a < t.length - r.length /\ r.length <= t.length /\ (row x).length = t.length - r.length - a:=by
 obtain ⟨h1,_⟩:=cm' _ _ _ _ _ h;have hl:=eH' h;have hp:=ag' x;rw [List.length_drop] at hl;refine ⟨?_,by omega,by omega,by omega⟩;have e:t.length - r.length = a + (row x).length:=by omega
 rw [e,<- List.drop_drop,h1,List.drop_left]
def hY' (s:σ) (t:List Nd):Option Tr:=match aF' cnt nx t.length s t with
 | some (x,[])=>some x
 | _=>none
theorem lm' {s:σ} {t:List Nd} {x:Tr} (h:hY' (cnt:=cnt) (nx:=nx) s t = some x):t = row x /\ okT cnt nx x s:=by
 unfold hY' at h;split at h
 ·rename_i y hy
  obtain rfl:=JB h;obtain ⟨h1,h2⟩:=cm' _ _ _ _ _ hy;exact ⟨by rw [h1]; simp,h2⟩
 ·cases h
theorem oA' {s:σ} {x:Tr} (h:okT cnt nx x s):hY' (cnt:=cnt) (nx:=nx) s (row x) = some x:=by
 unfold hY';have:=eG' x (row x).length s [] (KJ _) h;rw [JD] at this;rw [this]
end
mutual
def oB':Tr -> Nat
 | .mk _ ks=>1 + hZ' ks
def hZ':List Tr -> Nat
 | []=>0
 | x :: r=>oB' x + hZ' r
end
mutual
theorem tu':∀ x:Tr,(row x).length = oB' x
 | .mk n ks=>by rw [row,oB',JV,iN' ks]; omega
theorem iN':∀ l:List Tr,(rows l).length = hZ' l
 | []=>rfl
 | x :: r=>by rw [rows,hZ',JK,tu' x,iN' r]
end
theorem oC' (x:Tr):0 < oB' x:=by
 cases x;simp only [oB'];omega
theorem ia':∀ l:List Tr,l.length <= hZ' l
 | []=>KJ _
 | x :: r=>by
  have:=ia' r;have:=oC' x;simp only [hZ',JV];omega
end Cd
namespace Tm
open Go Go.Wx Cd
inductive Md where
 | tm | fn | am
def inR (x lo hi:Int):Bool:=decide (lo <= x) && decide (x <= hi)
theorem aB' {x lo hi:Int}:inR x lo hi = true ↔ lo <= x /\ x <= hi:=by simp [inR]
def ah' (n:Nd):Bool :=
 if n.op = 1 then inR n.a 0 1048576 && decide (n.b = 0)
 else if n.op = 2 then (decide (n.a = 0) || decide (n.a = 1)) && inR n.b 1 4
 else if n.op = 3 then inR n.a 0 16 && inR n.b 0 1000
 else if n.op = 4 \/ n.op = 5 \/ n.op = 6 \/ n.op = 7 then decide (n.a = 0) && decide (n.b = 0)
 else if n.op = 8 \/ n.op = 9 then inR n.a 0 63 && decide (n.b = 0)
 else if n.op = 10 then inR n.a 0 63 && inR n.b 0 15
 else if n.op = 11 then inR n.a 0 63 && inR n.b 0 16
 else if n.op = 12 then inR n.b 1 4 && inR n.a 0 (n.b - 1)
 else if n.op = 13 then inR n.a 0 15 && decide (n.b = 0)
 else false
def as' (n:Nd):Int:=if n.op = 4 \/ n.op = 5 \/ n.op = 6 \/ n.op = 13 then 2 else if n.op = 7 then 3 else if n.op = 11 then 2 + n.b else if n.op = 12 then n.b else 0
def cnt:Md -> Nd -> Option Nat
 | .tm,n=>if ah' n = true /\ n.op ≠ 3 /\ n.op ≠ 13 then some (if n.op = 2 then n.b.toNat else (as' n).toNat) else none
 | .fn,n=>if n.op = 13 /\ ah' n = true then some 2 else none
 | .am,n=>if n.op = 3 /\ ah' n = true then some 0 else none
def nx:Md -> Nd -> Nat -> Md
 | .tm,n,_=>if n.op = 2 then .am else if n.op = 12 then .fn else .tm
 | .fn,_,_=>.tm
 | .am,_,_=>.am
def nB':Int -> List Tr -> Bool
 | _,[]=>true
 | last,x :: r=>decide (last < x.n.a) && nB' x.n.a r
mutual
def fI':Tr -> Bool
 | .mk n ks=>(if n.op = 2 then nB' (-1) ks else true) && eg' ks
def eg':List Tr -> Bool
 | []=>true
 | x :: r=>fI' x && eg' r
end
def endS (t:List Nd) (s:Md) (a:Nat):Option Nat:=match aF' cnt nx t.length s (t.drop a) with
 | some (x,r)=>if fI' x = true then some (t.length - r.length) else none
 | none=>none
def fY' (t:List Nd) (s:Md):Nat -> Nat -> Option Nat
 | 0,a=>some a
 | c + 1,a=>match endS t s a with
  | none=>none
  | some a'=>fY' t s c a'
def atS (t:List Nd):Nat -> Int -> Nat -> Option Nat
 | 0,_,a=>some a
 | c + 1,last,a=>match t[a]? with
  | some m=>if m.op = 3 /\ ah' m = true /\ last < m.a then atS t c m.a (a + 1) else none
  | none=>none
theorem ib' {f g:Nat} (s:Nat -> Md):∀ (c k:Nat) (r:List Nd),r.length <= f -> r.length <= g -> kidsL (aF' cnt nx f) s k c r = kidsL (aF' cnt nx g) s k c r
 | 0,k,r,_,_=>rfl
 | c + 1,k,r,hf,hg=>by
  simp only [kidsL];rw [nA' (cnt:=cnt) (nx:=nx) (s:=s k) hf hg];cases h:aF' cnt nx g (s k) r with
  | none=>rfl
  | some q =>
   obtain ⟨x,r'⟩:=q;have:=eH' h;simp only;rw [ib' (f:=f) (g:=g) s c (k + 1) r' (by omega) (by omega)]
theorem mr' (t:List Nd) (s:Md):∀ (c k a:Nat),a <= t.length -> fY' t s c a = match kidsL (aF' cnt nx t.length) (fun _=>s) k c (t.drop a) with
  | some (ks,r)=>if eg' ks = true then some (t.length - r.length) else none
  | none=>none
 | 0,k,a,ha=>by simp [fY',kidsL,eg']; omega
 | c + 1,k,a,ha=>by
  simp only [fY',kidsL,endS];cases h:aF' cnt nx t.length s (t.drop a) with
  | none=>rfl
  | some q =>
   obtain ⟨x,r⟩:=q;obtain ⟨h1,h2,h3,_⟩:=rb' ha h;simp only
   by_cases hx:fI' x = true
   ·rw [if_pos hx]
    simp only;rw [mr' t s c (k + 1) (t.length - r.length) (by omega),<- h1];cases kidsL (aF' cnt nx t.length) (fun _=>s) (k + 1) c r with
    | none=>rfl
    | some q=>simp [eg',hx]
   ·rw [if_neg hx]
    simp only;cases kidsL (aF' cnt nx t.length) (fun _=>s) (k + 1) c r with
    | none=>rfl
    | some q=>simp [eg',hx]
theorem jT' (t:List Nd) (s:Md) {a:Nat} {n:Nd} (hn:t[a]? = some n) {c:Nat} (hc:cnt s n = some c) :
  endS t s a = match kidsL (aF' cnt nx t.length) (nx s n) 0 c (t.drop (a + 1)) with
  | some (ks,r)=>if fI' (.mk n ks) = true then some (t.length - r.length) else none
  | none=>none:=by
 have ha:=ai' hn;obtain ⟨x,hx,hd⟩:=af' ha;rw [hn] at hx;obtain rfl:=JB hx;have hl:(t.drop (a + 1)).length <= t.length:=by simp
 unfold endS;rw [hd];have e:t.length = (t.length - 1) + 1:=by omega
 rw [show aF' cnt nx t.length s (n :: t.drop (a + 1)) = aF' cnt nx ((t.length - 1) + 1) s (n :: t.drop (a + 1)) by rw [<- e]];simp only [aF',hc];have hk:=ib' (f:=t.length - 1) (g:=t.length) (nx s n) c 0 (t.drop (a + 1)) (by simp; omega) hl;rw [hk];cases kidsL (aF' cnt nx t.length) (nx s n) 0 c (t.drop (a + 1)) with
 | none=>rfl
 | some q=>rfl
theorem gw' (t:List Nd) (s:Md) {a:Nat} (h:∀ n,t[a]? = some n -> cnt s n = none):endS t s a = none:=by
 by_cases ha:a < t.length
 ·obtain ⟨n,hn,hd⟩:=af' ha
  unfold endS;rw [hd];have e:t.length = (t.length - 1) + 1:=by omega
  rw [show aF' cnt nx t.length s (n :: t.drop (a + 1)) = aF' cnt nx ((t.length - 1) + 1) s (n :: t.drop (a + 1)) by rw [<- e]];simp only [aF',h n hn]
 ·unfold endS
  rw [JY (by omega)];cases t.length <;> simp [aF']
theorem jU' (t:List Nd) (s:Md) {a:Nat} {n:Nd} (hn:t[a]? = some n) {c:Nat} (hc:cnt s n = some c) (h2:s = .tm -> n.op ≠ 2) {s':Md} (hs:∀ k,nx s n k = s') (h2':n.op ≠ 2):endS t s a = fY' t s' c (a + 1):=by
 have ha:=ai' hn;rw [jT' t s hn hc,mr' t s' c 0 (a + 1) (by omega),show nx s n = fun _=>s' from funext hs];cases kidsL (aF' cnt nx t.length) (fun _=>s') 0 c (t.drop (a + 1)) with
 | none=>rfl
 | some q=>simp [fI',h2']
theorem sH' (t:List Nd):∀ (c k:Nat) (last:Int) (a:Nat),a <= t.length -> atS t c last a = match kidsL (aF' cnt nx t.length) (fun _=>Md.am) k c (t.drop a) with
  | some (ks,r)=>if nB' last ks = true /\ eg' ks = true then some (t.length - r.length) else none
  | none=>none
 | 0,k,last,a,ha=>by simp [atS,kidsL,nB',eg']; omega
 | c + 1,k,last,a,ha=>by
  simp only [atS,kidsL]
  by_cases hlt:a < t.length
  ·obtain ⟨n,hn,hd⟩:=af' hlt
   have e:t.length = (t.length - 1) + 1:=by omega
   have hp:aF' cnt nx t.length .am (t.drop a) = if n.op = 3 /\ ah' n = true then some (.mk n [],t.drop (a + 1)) else none:=by
    skip
    rw [hd,show aF' cnt nx t.length .am (n :: t.drop (a + 1)) = aF' cnt nx ((t.length - 1) + 1) .am (n :: t.drop (a + 1)) by rw [<- e]];simp only [aF',cnt]
    by_cases h:n.op = 3 /\ ah' n = true
    ·simp only [if_pos h,kidsL]
    ·simp only [if_neg h]
   rw [hn];simp only [hp]
   by_cases h:n.op = 3 /\ ah' n = true
   ·rw [if_pos h]
    simp only;have h2:n.op ≠ 2:=by rw [h.1]; decide
    by_cases hl:last < n.a
    ·rw [if_pos ⟨h.1,h.2,hl⟩,sH' t c (k + 1) n.a (a + 1) (by omega)]
     cases kidsL (aF' cnt nx t.length) (fun _=>Md.am) (k + 1) c (t.drop (a + 1)) with
     | none=>rfl
     | some q=>simp [nB',eg',fI',Tr.n,hl,h2]
    ·rw [if_neg fun q=>hl q.2.2]
     cases kidsL (aF' cnt nx t.length) (fun _=>Md.am) (k + 1) c (t.drop (a + 1)) with
     | none=>rfl
     | some q=>simp [nB',Tr.n,hl]
   ·rw [if_neg h,if_neg fun q=>h ⟨q.1,q.2.1⟩]
  ·rw [List.getElem?_eq_none (by omega)]
   have:aF' cnt nx t.length .am (t.drop a) = none:=by
    skip
    rw [JY (by omega)];cases t.length <;> simp [aF']
   simp only [this]
theorem oD' (t:List Nd) {a:Nat} {n:Nd} (hn:t[a]? = some n) (h2:n.op = 2) (hp:ah' n = true):endS t .tm a = atS t n.b.toNat (-1) (a + 1):=by
 have ha:=ai' hn;have hc:cnt .tm n = some n.b.toNat:=by simp [cnt,hp,h2]
 rw [jT' t .tm hn hc,sH' t n.b.toNat 0 (-1) (a + 1) (by omega),show nx .tm n = fun _=>Md.am from funext fun k=>by simp [nx,h2]];cases kidsL (aF' cnt nx t.length) (fun _=>Md.am) 0 n.b.toNat (t.drop (a + 1)) with
 | none=>rfl
 | some q=>simp [fI',h2]
theorem ln' {t:List Nd} {s:Md} {a e:Nat} (h:endS t s a = some e):a < e /\ e <= t.length:=by
 unfold endS at h;split at h
 ·rename_i x r hx
  split at h
  ·obtain rfl:=JB h
   have hl:=eH' hx;have hp:=ag' x;rw [List.length_drop] at hl;omega
  ·cases h
 ·cases h
def Ok (s:Md) (x:Tr):Prop:=okT cnt nx x s /\ fI' x = true
def sI' (t:List Nd):Option Tr:=match hY' (cnt:=cnt) (nx:=nx) Md.tm t with
 | some x=>if fI' x = true then some x else none
 | none=>none
theorem oE' {t:List Nd} {x:Tr} (h:sI' t = some x):t = row x /\ Ok .tm x:=by
 unfold sI' at h;split at h
 ·rename_i y hy
  split at h
  ·rename_i hi
   obtain rfl:=JB h;obtain ⟨h1,h2⟩:=lm' hy;exact ⟨h1,h2,hi⟩
  ·cases h
 ·cases h
theorem lp' {x:Tr} (h:Ok .tm x):sI' (row x) = some x:=by
 unfold sI';rw [oA' h.1];simp [h.2]
theorem lq' {s:Md} {x:Tr} (h:Ok s x) (p q:List Nd):endS (p ++ (row x ++ q)) s p.length = some (p.length + (row x).length):=by
 unfold endS;rw [List.drop_left,eG' x _ s q (by simp; omega) h.1];simp only [h.2,if_true]
 congr 1
 simp;omega
theorem oF' (t:List Nd):endS t .tm 0 = some t.length ↔ (sI' t).isSome:=by
 unfold endS sI' hY';rw [List.drop_zero];cases h:aF' cnt nx t.length Md.tm t with
 | none=>simp
 | some q =>
  obtain ⟨x,r⟩:=q;have hl:=eH' h;have hp:=ag' x;cases r with
  | nil=>by_cases hi:fI' x = true <;> simp [hi]
  | cons y r =>
   simp only [JV] at hl
   by_cases hi:fI' x = true
   ·simp [hi]; omega
   ·simp [hi]
end Tm
namespace Tm
open Go Go.Wx Cd
def bf' (n:Nd) (k:Int):Int:=if ((n.op = 4 \/ n.op = 5) /\ k = 1) \/ (n.op = 7 /\ k = 2) then 1 else 0
def arC (n:Nd) (nb:Int) (k:Int):Int:=if n.op = 13 then (if k = 1 then nb else 0) else bf' n k
theorem fJ' {n:Nd} (h:n.op ≠ 13) (nb k:Int):arC n nb k = bf' n k:=by simp [arC,h]
section
variable {S:Type} (one:S -> Nd -> Int -> Option S) (raw:S -> Nd -> S)
mutual
def wT:Tr -> Int -> Int -> S -> Option S
 | .mk n ks,d,nb,s=>match (if n.op = 3 \/ n.op = 13 then some (raw s n) else one s n d) with
  | none=>none
  | some s1=>wK ks n nb 0 d s1
def wK:List Tr -> Nd -> Int -> Int -> Int -> S -> Option S
 | [],_,_,_,_,s=>some s
 | x :: r,n,nb,k,d,s=>match wT x (d + arC n nb k) n.b s with
  | none=>none
  | some s1=>wK r n nb (k + 1) d s1
end
end
def eA' {U:Type} (s:U × List Nd) (n:Nd):U × List Nd:=(s.1,s.2 ++ [n])
theorem ms' {U:Type} (one:U × List Nd -> Nd -> Int -> Option (U × List Nd)):∀ (ks:List Tr) (n:Nd) (nb k d:Int) (s:U × List Nd),okL cnt nx ks n .tm k.toNat -> n.op = 2 -> wK one eA' ks n nb k d s = some (s.1,s.2 ++ rows ks)
 | [],n,nb,k,d,s,_,_=>by simp [wK,rows]
 | .mk m l :: r,n,nb,k,d,s,h,h2=>by
  obtain ⟨h3,h4⟩:=h;have hm:cnt .am m = some l.length:=by
   have:=h3.1
   rwa [show nx Md.tm n k.toNat = .am by simp [nx,h2]] at this
  have h5:m.op = 3 /\ l = []:=by
   simp only [cnt] at hm;split at hm
   ·rename_i q
    exact ⟨q.1,List.length_eq_zero_iff.1 (JB hm).symm⟩
   ·cases hm
  obtain ⟨h6,rfl⟩:=h5;have h7:∀ k',okL cnt nx r n .tm k':=by
   have:∀ (r:List Tr) (k k':Nat),okL cnt nx r n .tm k -> okL cnt nx r n .tm k':=by
    intro r
    induction r with
    | nil=>intros; trivial
    | cons y r ih =>
     intro k k' q;refine ⟨?_,ih _ _ q.2⟩;have:=q.1
     rwa [show nx Md.tm n k = nx Md.tm n k' from rfl] at this
   exact fun k'=>this r _ k' h4
  simp only [wK,wT,h6,true_or,if_true,eA'];rw [ms' one r n nb (k + 1) d _ (h7 _) h2];simp [rows,row]
theorem lr' {n:Nd} {s:Md}:∀ {r:List Tr} {k:Nat} (k':Nat),okL cnt nx r n s k -> okL cnt nx r n s k'
 | [],_,_,_=>trivial
 | y :: r,k,k',q=>by
  refine ⟨?_,lr' (r:=r) _ q.2⟩;have:=q.1;cases s <;> exact this
theorem cR' {x:Tr} {r:List Tr} (h:eg' (x :: r) = true):fI' x = true /\ eg' r = true:=by simpa [eg'] using h
theorem Ok.kids {n:Nd} {ks:List Tr} {s:Md} (h:Ok s (.mk n ks)):cnt s n = some ks.length /\ okL cnt nx ks n s 0 /\ eg' ks = true:=by
 obtain ⟨⟨h1,h2⟩,h3⟩:=h;refine ⟨h1,h2,?_⟩;simp only [fI',Bool.and_eq_true] at h3;exact h3.2
theorem bO' {n:Nd} {s:Md} {x:Tr} {r:List Tr} {k:Nat} (h:okL cnt nx (x :: r) n s k) (hi:eg' (x :: r) = true):Ok (nx s n 0) x /\ okL cnt nx r n s k /\ eg' r = true:=by
 have h1:=h.1;rw [show nx s n k = nx s n 0 by cases s <;> rfl] at h1;exact ⟨⟨h1,(cR' hi).1⟩,lr' _ h.2,(cR' hi).2⟩
end Tm
namespace Tm
open Go Go.Wx Cd
section
variable {U:Type} {one:U × List Nd -> Nd -> Int -> Option (U × List Nd)}
mutual
theorem jV' {G:Nat} (hG:1 <= G) (h:∀ u l n d u' l',one (u,l) n d = some (u',l') -> l'.length <= l.length + G):∀ (x:Tr) (d nb:Int) (u:U) (l:List Nd) (u':U) (l':List Nd),wT one eA' x d nb (u,l) = some (u',l') -> l'.length <= l.length + G * (row x).length
 | .mk n ks,d,nb,u,l,u',l',e=>by
  simp only [wT] at e;split at e
  ·cases e
  ·rename_i s1 hs1
   obtain ⟨u1,l1⟩:=s1;have h1:l1.length <= l.length + G:=by
    split at hs1
    ·simp only [eA',Option.some.injEq,Prod.mk.injEq] at hs1
     rw [<- hs1.2];simp;omega
    ·exact h _ _ _ _ _ _ hs1
   have h2:=sJ' hG h ks n nb 0 d u1 l1 u' l' e;simp only [row,JV,Nat.mul_add];omega
theorem sJ' {G:Nat} (hG:1 <= G) (h:∀ u l n d u' l',one (u,l) n d = some (u',l') -> l'.length <= l.length + G):∀ (ks:List Tr) (n:Nd) (nb k d:Int) (u:U) (l:List Nd) (u':U) (l':List Nd),wK one eA' ks n nb k d (u,l) = some (u',l') -> l'.length <= l.length + G * (rows ks).length
 | [],n,nb,k,d,u,l,u',l',e=>by
  simp only [wK,Option.some.injEq,Prod.mk.injEq] at e;rw [e.2];simp [rows]
 | x :: r,n,nb,k,d,u,l,u',l',e=>by
  simp only [wK] at e;split at e
  ·cases e
  ·rename_i s1 hs1
   obtain ⟨u1,l1⟩:=s1;have h1:=jV' hG h x _ _ u l u1 l1 hs1;have h2:=sJ' hG h r n nb (k + 1) d u1 l1 u' l' e;simp only [rows,JK,Nat.mul_add];omega
end
theorem tv' {x:Tr} (h:x.n.op ≠ 13) (d nb nb':Int) (s:U × List Nd):wT one eA' x d nb s = wT one eA' x d nb' s:=by
 obtain ⟨n,ks⟩:=x;simp only [Tr.n] at h;simp only [wT];split
 ·rfl
 ·rename_i s1 _
  have:∀ (r:List Tr) (k:Int) (s:U × List Nd),wK one eA' r n nb k d s = wK one eA' r n nb' k d s:=by
   intro r
   induction r with
   | nil=>intros; rfl
   | cons y r ih =>
    intro k s;simp only [wK,fJ' h,ih]
  exact this _ _ _
end
theorem bx' {n:Nd} {c:Nat} (h:cnt .tm n = some c):ah' n = true /\ n.op ≠ 3 /\ n.op ≠ 13 /\ c = if n.op = 2 then n.b.toNat else (as' n).toNat:=by
 simp only [cnt] at h;split at h
 ·rename_i q
  exact ⟨q.1,q.2.1,q.2.2,(JB h).symm⟩
 ·cases h
theorem gx' {n:Nd} {c:Nat} (h:cnt .fn n = some c):ah' n = true /\ n.op = 13 /\ c = 2:=by
 simp only [cnt] at h;split at h
 ·rename_i q
  exact ⟨q.2,q.1,(JB h).symm⟩
 ·cases h
theorem Ok.tm {n:Nd} {ks:List Tr} (h:Ok .tm (.mk n ks)):ah' n = true /\ n.op ≠ 3 /\ n.op ≠ 13:=by
 obtain ⟨h1,_⟩:=h.kids;obtain ⟨a,b,c,_⟩:=bx' h1;exact ⟨a,b,c⟩
theorem Ok.fn {x:Tr} (h:Ok .fn x):∃ f ty bo,x = .mk f [ty,bo] /\ f.op = 13 /\ ah' f = true /\ Ok .tm ty /\ Ok .tm bo:=by
 obtain ⟨f,ks⟩:=x;obtain ⟨h1,h2,h3⟩:=h.kids;obtain ⟨a,b,c⟩:=gx' h1
 match ks,c with
 | [ty,bo],_ =>
  obtain ⟨k1,k2,k3⟩:=bO' h2 h3;obtain ⟨k4,_,_⟩:=bO' k2 k3;exact ⟨f,ty,bo,rfl,b,a,k1,k4⟩
theorem mt':∀ {ks:List Tr} {n:Nd},n.op = 2 -> okL cnt nx ks n .tm 0 -> (rows ks).length = ks.length
 | [],n,_,_=>rfl
 | .mk m l :: r,n,h2,h=>by
  obtain ⟨h3,h4⟩:=h;have hm:cnt .am m = some l.length:=by
   have:=h3.1
   rwa [show nx Md.tm n 0 = .am by simp [nx,h2]] at this
  have h5:l = []:=by
   simp only [cnt] at hm;split at hm
   ·exact List.length_eq_zero_iff.1 (JB hm).symm
   ·cases hm
  subst h5;have:=mt' h2 (lr' 0 h4);simp [rows,row,this]
theorem aQ' {n:Nd} (h:ah' n = true):0 <= n.b /\ n.b <= 1000 /\ 0 <= n.a /\ n.a <= 1048576:=by
 simp only [ah'] at h
 repeat' split at h
 all_goals first | (simp [inR] at h; omega) | contradiction
theorem ls' (n:Nd) (k:Int):0 <= bf' n k /\ bf' n k <= 1:=by
 unfold bf';split <;> omega
end Tm
