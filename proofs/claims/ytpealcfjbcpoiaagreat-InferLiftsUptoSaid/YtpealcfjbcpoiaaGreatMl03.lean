import Derived.Test.YtpealcfjbcpoiaaGreatMl02
import Derived.Laws.CopyRow
import Derived.Lib.SliceRun
import Derived.Test.YtpealcfjbcpoiaaGreatProg
import Derived.KernelRfl
set_option linter.unusedVariables false
set_option linter.unusedSimpArgs false
namespace Go.Wx
theorem uG' {x:Int} (h0:0 <= x) (h:x < 18446744073709551616):IntKind.wrap .u64 x = x:=by
 simp only [IntKind.wrap,IntKind.bits,IntKind.signed];simp;omega
theorem vV' {x:Int} (h0:0 <= x) (h:x < 256):IntKind.wrap .u8 x = x:=by
 simp only [IntKind.wrap,IntKind.bits,IntKind.signed];simp;omega
section
variable {P:Program} {k:Value -> World -> Prop} {kq:Value -> Prop} {C:World -> Prop} {t:TypeId} {w:World}
theorem sY' {x y:Nat} (hx:x < 256) (hy:y < 256) (w:World):(binOp .or t (.int .u8 (x:Int)) (.int .u8 (y:Int))).run P w = .ok (.int .u8 ((x ||| y:Nat):Int)) w:=by
 have h1:(x ||| y) < 2 ^ 8:=Nat.or_lt_two_pow (by omega) (by omega);have e:(BitVec.ofInt 8 (x:Int) ||| BitVec.ofInt 8 (y:Int)).toNat = x ||| y:=by
  rw [BitVec.toNat_or];simp only [BitVec.ofInt_natCast,BitVec.toNat_ofNat];rw [Nat.mod_eq_of_lt (by omega),Nat.mod_eq_of_lt (by omega)]
 have:=vV' (x:=((x ||| y:Nat):Int)) (by omega) (by omega);simp only [binOp_or,Op.intBits,IntKind.bits,Sem.run_pure];exact congrArg (fun z=>Result.ok z w) (congrArg _ ((congrArg (fun n:Nat=>IntKind.wrap _ (n:Int)) e).trans this))
theorem u64 {r:Int} {k:Value -> Prop} (h1:0 <= r) (h2:r < 18446744073709551616) (hk:k (.int .u64 r)):EvInt .u64 r k:=intv r (uG' h1 h2) hk
theorem or8 {x y:Nat} (z:Nat) (hx:x < 256) (hy:y < 256) (hz:x ||| y = z) (h:k (.int .u8 (z:Int)) w):EvRun P (binOp .or t (.int .u8 (x:Int)) (.int .u8 (y:Int))) w k:=by
 subst hz;exact run (sY' hx hy w) h
theorem gC' {b o l h cap sz:Nat} (hl:l < cap):sliced (some ⟨b,o,none⟩) l h cap sz = .slice (some ⟨b,o + l * sz,none⟩) (h - l) (cap - l):=by
 simp only [sliced,if_neg (show ¬ cap = l by omega),Option.map_some,dO']
theorem dQ' {b o h cap sz:Nat}:sliced (some ⟨b,o,none⟩) 0 h cap sz = .slice (some ⟨b,o,none⟩) h cap:=by
 simp only [sliced,Option.map_some,dO',Nat.zero_mul,Nat.add_zero,Nat.sub_zero];split <;> rfl
section
variable {τ:Tau} (hτ:ax' P τ) {T e sz bs:Nat} (hs:look τ.slcs T = some (e,sz,bs)) {a:Option Addr} {len cap:Nat}
include hτ hs
theorem jU' {j:IntKind} {i:Int} (l:Nat) (v:Value) (hi:i = l) (hl:l <= len) (hv:sliced a l len cap sz = v) (hk:kq v):EvRunQ P C (Instr.sliceAt T (.slice a len cap) (some (.int j i)) none none) kq:=by
 obtain ⟨hu,hz⟩:=dw' hτ hs;subst hi hv;refine sR' (fun w _=>?_) hk;rw [run_sliceAt_slice w T _ _ _ _ hu,run_slice_l w T a len cap hu j l (by omega) (by omega),hz];simp
theorem uH' {j:IntKind} {i:Int} (h:Nat) (v:Value) (hi:i = h) (hl:h <= cap) (hv:sliced a 0 h cap sz = v) (hk:kq v):EvRunQ P C (Instr.sliceAt T (.slice a len cap) none (some (.int j i)) none) kq:=by
 obtain ⟨hu,hz⟩:=dw' hτ hs;subst hi hv;refine sR' (fun w _=>?_) hk;rw [run_sliceAt_slice w T _ _ _ _ hu,run_slice_h w T a len cap hu j h (by omega) (by omega),hz];simp
theorem jV' {j:IntKind} {i:Int} (l:Nat) (v:Value) (hi:i = l) (hl:l <= len) (hv:sliced a l len cap sz = v) (hk:k v w):EvRun P (Instr.sliceAt T (.slice a len cap) (some (.int j i)) none none) w k:=by
 subst hv;exact slcL hτ hs l hi hl hk
theorem nk' {j:IntKind} {i:Int} (h:Nat) (v:Value) (hi:i = h) (hl:h <= cap) (hv:sliced a 0 h cap sz = v) (hk:k v w):EvRun P (Instr.sliceAt T (.slice a len cap) none (some (.int j i)) none) w k:=by
 subst hv;exact slcH hτ hs h hi hl hk
end
end
def vW' (md:Region.Mode) (ops:Array Oper) (j:Nat):Bool :=
 match ops[j]? with
 | some o=>(List.range ops.size).all fun k=>k == j || o.after.any fun e=>Region.binds md e && e.on == k
 | none=>false
def si' (P:Program) (md:Region.Mode) (ops:Array Oper) (Q:Exit -> Act -> World -> Prop) (S:World -> Prop):Nat -> Array Bool -> Act -> World -> Prop
 | 0,listed,a,w=>Region.ready md ops listed = [] /\ Q .normal a w
 | fuel + 1,listed,a,w=>(Region.ready md ops listed = [] -> Q .normal a w) /\
  ∀ i ∈ Region.ready md ops listed,wpOp P ops Q i (fun a' w'=>(S w' \/ vW' md ops i = true) /\ si' P md ops Q S fuel (listed.setIfInBounds i true) a' w') a w
section
variable {P:Program} {ops:Array Oper} {Q:Exit -> Act -> World -> Prop} {md:Region.Mode} {S:World -> Prop}
end
@[irreducible] def EvAnyG (P:Program) (n:Nat) (S:World -> Prop) (l:List Oper) (K:Exit -> St -> World -> Prop) (fuel:Nat) (listed:Array Bool) (s:St) (w:World):Prop :=
 ∀ a,Fr n a s -> si' P .any l.toArray (nZ' n K) S fuel listed a w
section
variable {P:Program} {τ:Tau} {n:Nat} {S:World -> Prop} {l:List Oper} {K:Exit -> St -> World -> Prop} {s:St} {w:World}
end
def uI' {α:Type} (R:Rd α):Prop:=∀ (C C':Mem) (cs:List Value) (x:α),R.den C cs x -> R.den C' cs x
theorem gD':uI' rInt:=fun _ _ _ _ h=>h
theorem eO' {α:Type} {R:Rd α} {C:Mem} {b:Nat}:∀ (l:List α) (o:Nat),(∀ i x,l[i]? = some x -> R.At C b (o + i * R.sz) x) -> ∃ css,All2 (R.den C) css l /\ ∀ i x j u,css[i]? = some x -> x[j]? = some u -> C b (o + i * R.sz + j) u
 | [],o,h=>⟨[],trivial,fun i x j u hi=>by simp at hi⟩
 | y :: r,o,h=>by
  obtain ⟨cs,h1,h2⟩:=h 0 y rfl;obtain ⟨css,h3,h4⟩:=eO' r (o + R.sz) (fun i x hi=>by
   have:=h (i + 1) x (by simpa using hi)
   rwa [show o + (i + 1) * R.sz = o + R.sz + i * R.sz by rw [Nat.add_mul]; omega] at this)
  refine ⟨cs :: css,⟨h1,h3⟩,fun i x j u hi hj=>?_⟩
  match i with
  | 0 =>
   simp at hi;subst hi;exact h2 j u hj
  | i + 1 =>
   have:=h4 i x j u (by simpa using hi) hj
   rwa [show o + (i + 1) * R.sz + j = o + R.sz + i * R.sz + j by rw [Nat.add_mul]; omega]
theorem Own.apF {α:Type} {R:Rd α} {e lo:Nat} {w:World} {v:Value} {l:List α} {P:Program} {τ:Tau} (hτ:ax' P τ) {T bs:Nat} (hs:look τ.slcs T = some (e,R.sz,bs)) {z:List Value} (hz:τ.zero e = some z) (hsz:0 < R.sz) {k:Value -> World -> Prop} {c ty:Nat} {a:Option Addr}
  (h:Own R e lo w v l) (hf:uI' R) {C:Mem} (hS:Sub C w) (xs:List α) (hx:Sl R C a xs)
  (hbytes:(l.length + xs.length) * bs <= 140737488355328) (h63:l.length + xs.length <= maxLen)
  (hk:∀ v' w',Own R e lo w' v' (l ++ xs) -> Kp v.ownBlock.toList w w' -> (v'.ownBlock = v.ownBlock \/ v'.ownBlock = some w.heap.size) -> k v' w'):EvRun P (Builtin.append_ #[T,T] ty #[v,.slice a xs.length c]) w k:=by
 rcases hx.2 with h0 | ⟨b,o,rfl,h2⟩
 ·have:xs = []:=List.length_eq_zero_iff.1 h0
  subst this;exact h.ap hτ hs hz hsz [] [] rfl trivial (.inl rfl) hbytes h63 hk
 ·obtain ⟨css,h3,h4⟩:=eO' xs o h2
  exact h.ap hτ hs hz hsz xs css rfl (h3.mono fun cs x hx=>hf _ _ _ _ hx) (.inr ⟨b,o,rfl,fun i x j u hi hj=>hS _ _ _ (h4 i x j u hi hj)⟩) hbytes h63 hk
theorem Own.cap {α:Type} {R:Rd α} {e lo:Nat} {w:World} {v:Value} {l:List α} (h:Own R e lo w v l):∃ a cap,v = .slice a l.length cap /\ l.length <= cap:=by
 obtain ⟨css,h1,_⟩:=h.row;rcases h1.2 with ⟨rfl,h0⟩ | ⟨g',cap,cur,rfl,_,_,hn,_⟩
 ·exact ⟨none,0,by rw [h0],by omega⟩
 ·exact ⟨_,cap,rfl,hn⟩
theorem Sub.lt {C:Mem} {w:World} (h:Sub C w):∀ b o v,C b o v -> b < w.heap.size:=fun b o v hc=>(h b o v hc).lt
theorem nl' {P:Program} {τ:Tau} (hτ:ax' P τ) {T:Nat} {fs:List (Nat × Nat × Bool)} {z:List Nat} (hr:look τ.tab T = some (fs,z)) {b:Nat} {w:World} {K:Value -> Prop} (cs:List Value) (hl:cs.length = z.length) (hc:∀ j v,cs[j]? = some v -> Cl w.heap b j v) (hk:K (.agg cs.toArray)) :
  EvRun P (loadVar T ⟨b,0,none⟩) w fun v w'=>w' = w /\ K v:=by
 obtain ⟨gs,hu,hfs,hinf,i,hi,hsz,hz⟩:=hτ.tab T fs z hr;have:=run_loadCells_list (P:=P) (w:=w) ⟨b,0,none⟩ cs (fun j v hj=>by rw [dO',KW]; exact (hc j v hj).cell);rw [hl] at this;refine run (v:=.agg cs.toArray) (w':=w) ?_ ⟨rfl,hk⟩;simp [loadVar,isAgg,run_underlying hu,sizeOf,typeInfo,hi,hsz,this]
theorem uJ' {w4 w5 w7:World} {lo:Nat} {v:Value} {α:Type} {R:Rd α} {e:Nat} {l:List α} (hO:Own R e lo w4 v l) (k:Kp [] w5 w7):∀ b o u,New w4.heap.size w5 b o u -> Dn lo v w7 b o u:=fun b o u hu =>
 ⟨KQ hO.low hu.1,fun e=>by have:=(hO.block b e.symm).2; have:=hu.1; omega,hu.2.kp k (by simp)⟩
theorem od' {P:Program} {τ:Tau} (hτ:ax' P τ) {T e sz bs:Nat} (hs:look τ.slcs T = some (e,sz,bs)) {x y:Operand} {a:Option Addr} {n c:Nat} {w:World} {k:Value -> World -> Prop} (h:k (.bool a.isNone) w) :
  EvRun P (do eqGuard .eql T x y (.slice a n c) (.slice none 0 0); binOp .eql T (.slice a n c) (.slice none 0 0)) w k:=by
 obtain ⟨hu,_⟩:=hτ.slcs T e sz bs hs;refine run (v:=.bool a.isNone) ?_ h;rw [eqGuard_at_slice];simp only [Sem.run_bind,Sem.run_pure,Result.andThen_ok];exact Lib.run_eql_slice_nil w T e a n c 0 0 hu
theorem iR' {α:Type} {k:Nat}:∀ (css:List (List α)),(∀ cs ∈ css,cs.length = k) -> ∀ (i j:Nat) (cs:List α) (u:α),css[i]? = some cs -> j < k -> (css.set i (cs.set j u)).flatten = css.flatten.set (i * k + j) u
 | [],_,i,j,cs,u,h1,_=>by simp at h1
 | c :: r,h,0,j,cs,u,h1,h2=>by
  simp at h1;subst h1;have hc:=h c (by simp);rw [List.set_cons_zero,List.flatten_cons,List.flatten_cons,Nat.zero_mul,KW,List.set_append_left _ _ (by omega)]
 | c :: r,h,i + 1,j,cs,u,h1,h2=>by
  have hc:=h c (by simp);have:=iR' r (fun c hc=>h c (by simp [hc])) i j cs u (by simpa using h1) h2;rw [List.set_cons_succ,List.flatten_cons,List.flatten_cons,this,List.set_append_right _ _ (by rw [hc,Nat.add_mul]; omega)];rw [show (i + 1) * k + j - c.length = i * k + j by rw [hc,Nat.add_mul]; omega]
theorem All2.set {α β:Type} {p:β -> α -> Prop} {b:β} {a:α} (h0:p b a):∀ {l:List β} {m:List α} {i:Nat},All2 p l m -> All2 p (l.set i b) (m.set i a)
 | [],[],_,_=>trivial
 | _ :: _,_ :: _,0,h=>⟨h0,h.2⟩
 | _ :: _,_ :: _,i + 1,h=>⟨h.1,All2.set h0 h.2⟩
 | [],_ :: _,_,h=>h.elim
 | _ :: _,[],_,h=>h.elim
theorem Own.st {α:Type} {R:Rd α} {e lo:Nat} {w:World} {v:Value} {l:List α} (h:Own R e lo w v l) {i j:Nat} {x y:α} (hi:l[i]? = some x) (hj:j < R.sz) {u:Value} (hu:u.oneCell' = true)
  (hy:∀ cs,R.den (Dn lo v w) cs x -> R.den (Dn lo v w) (cs.set j u) y) :
  ∃ g cap,v = .slice (some ⟨g,0,none⟩) l.length cap /\ lo <= g /\
   ∀ {K:World -> Prop},(∀ w',Own R e lo w' v (l.set i y) -> w'.heap.size = w.heap.size -> Kp [g] w w' -> K w') -> EvSt w ⟨g,0 + i * R.sz + j,none⟩ u K:=by
 obtain ⟨⟨css,h1,h2⟩,h3⟩:=h;have hil:=ai' hi;have hlen:=h2.length;have hk:∀ cs ∈ css,cs.length = R.sz:=by
  intro cs hcs;obtain ⟨i,hi⟩:=JH hcs;have hil:=(List.getElem?_eq_some_iff.1 hi).1;obtain ⟨cs',h4,h5⟩:=h2.get (i:=i) (a:=l[i]'(by omega)) (by simp);rw [hi] at h4;obtain rfl:=JB h4;exact R.len h5
 rcases h1 with ⟨hl1,⟨rfl,h0⟩ | ⟨g,cap,cur,rfl,hb,hg,hn,hm,hc,ht⟩⟩
 ·omega
 refine ⟨g,cap,rfl,hb,fun {K} hK=>?_⟩;obtain ⟨cs,hcs,hden⟩:=h2.get hi;have hB:Bk w.heap g cur.toList e:=by unfold Bk; simpa using hg
 have hlt:i * R.sz + j < l.length * R.sz:=by
  have:(i + 1) * R.sz <= l.length * R.sz:=Nat.mul_le_mul_right _ (by omega);rw [Nat.add_mul] at this;omega
 have hle:l.length * R.sz <= cap * R.sz:=Nat.mul_le_mul_right _ hn;rw [KW];refine Go.Wx.st hB (by simp; omega) hu fun w' hB' hs hkp=>hK w' ?_ hs hkp;refine ⟨⟨css.set i (cs.set j u),⟨?_,.inr ⟨g,cap,(cur.toList.set (i * R.sz + j) u).toArray,by simp,hb,?_,by simpa using hn,hm,by simp [hc],?_⟩⟩,?_⟩,by omega⟩
 ·rw [iR' css hk i j cs u hcs hj]
  simpa using hl1
 ·simpa [Bk] using hB'
 ·rw [iR' css hk i j cs u hcs hj]
  simp only [List.length_set];rw [List.take_set,ht]
 ·have step:∀ b o u,Dn lo (.slice (some ⟨g,0,none⟩) l.length cap) w b o u -> Dn lo (.slice (some ⟨g,0,none⟩) l.length cap) w' b o u:=fun b o u hu=>⟨hu.1,hu.2.1,hu.2.2.kp hkp (by
   have h:=hu.2.1;simp [Value.ownBlock] at h
   simpa using h)⟩
  exact All2.set (R.mono step (hy cs hden)) (h2.mono fun cs x hx=>R.mono step hx)
end Go.Wx
namespace Cd
open Go Go.Wx
structure Nd where
 op:Int
 a:Int
 b:Int
def rNd:Rd Nd where
 sz:=3
 den C cs x:=cs = [iV x.op,iV x.a,iV x.b] /\ I64 x.op /\ I64 x.a /\ I64 x.b
 len:=by rintro C cs x ⟨rfl,_⟩; rfl
 mono:=by rintro C C' cs x hc h; exact h
 one:=by rintro C cs x ⟨rfl,_⟩ u hu; simp at hu; rcases hu with rfl | rfl | rfl <;> rfl
theorem ft' {C:Mem} {a:Option Addr} {l:List Nd} (h:Sl rNd C a l) {i:Nat} {x:Nd} (hi:l[i]? = some x):∃ b o,a = some ⟨b,o,none⟩ /\ I64 x.op /\ I64 x.a /\ I64 x.b /\
  ∀ j v,[iV x.op,iV x.a,iV x.b][j]? = some v -> C b (o + i * 3 + j) v:=by
 obtain ⟨b,o,ha,hc⟩:=h.at (ai' hi)
 obtain ⟨cs,⟨rfl,h2,h3,h4⟩,h5⟩:=hc i x hi;exact ⟨b,o,ha,h2,h3,h4,h5⟩
def rSk {α:Type} (R:Rd α):Rd (List α) where
 sz:=1
 den C cs l:=∃ a cap,cs = [.slice a l.length cap] /\ l.length <= cap /\ Sl R C a l
 len:=by rintro C cs x ⟨a,cap,rfl,_⟩; rfl
 mono:=by rintro C C' cs x hc ⟨a,cap,rfl,h',h⟩; exact ⟨a,cap,rfl,h',h.mono hc⟩
 one:=by rintro C cs x ⟨a,cap,rfl,_⟩ u hu; simp at hu; subst hu; rfl
theorem _root_.Go.Wx.Sl.sk {α:Type} {R:Rd α} {C:Mem} {a:Option Addr} {l:List (List α)} (h:Sl (rSk R) C a l) {i:Nat} {x:List α} (hi:l[i]? = some x) :
  ∃ b o,a = some ⟨b,o,none⟩ /\ ∃ a' cap,C b (o + i * 1) (.slice a' x.length cap) /\ x.length <= cap /\ Sl R C a' x:=by
 obtain ⟨b,o,ha,hc⟩:=h.at (ai' hi)
 obtain ⟨cs,⟨a',cap,rfl,hl,hs⟩,h2⟩:=hc i x hi;exact ⟨b,o,ha,a',cap,h2 0 _ rfl,hl,hs⟩
theorem _root_.Go.Wx.Sl.of_sk {α:Type} {R:Rd α} {C:Mem} {a:Option Addr} {l:List (List α)} (h:Sl (rSk R) C a l):Sl (rSl R) C a l:=by
 refine ⟨h.1,?_⟩;rcases h.2 with h0 | ⟨b,o,h1,h2⟩
 ·exact .inl h0
 ·refine .inr ⟨b,o,h1,fun i x hx=>?_⟩
  obtain ⟨cs,⟨a',cap,rfl,hl,hs⟩,h3⟩:=h2 i x hx;exact ⟨_,⟨a',cap,rfl,hs⟩,h3⟩
theorem _root_.Go.Wx.Sl.from {α:Type} {R:Rd α} {C:Mem} {a:Option Addr} {l:List α} (h:Sl R C a l) {cap:Nat} (hc:l.length <= cap) (k:Nat) (hk:k <= l.length) :
  ∃ a',sliced a k l.length cap R.sz = .slice a' (l.drop k).length (cap - k) /\ Sl R C a' (l.drop k):=by
 rcases h.2 with h0 | ⟨b,o,rfl,h2⟩
 ·have:l = []:=List.length_eq_zero_iff.1 h0
  subst this;refine ⟨_,by simp only [sliced,List.drop_nil,JU,Nat.zero_sub]; rfl,?_⟩;rw [List.drop_nil];exact Sl.nil _ _ _
 ·by_cases he:cap = k
  ·have e0:l.drop k = []:=JY (by omega)
   refine ⟨_,by simp only [sliced,List.length_drop]; rfl,?_⟩;rw [e0];exact Sl.nil _ _ _
  ·refine ⟨some ⟨b,o + k * R.sz,none⟩,?_,by have:=h.1; rw [List.length_drop]; omega,.inr ⟨b,o + k * R.sz,rfl,fun i x hi=>?_⟩⟩
   ·rw [List.length_drop]
    exact gC' (by omega)
   ·rw [List.getElem?_drop] at hi
    have:=h2 _ _ hi
    rwa [Nat.add_mul,<- Nat.add_assoc] at this
theorem fN' {C:World -> Prop} {b o n:Nat} {k:Value -> Prop} (cs:List Value) (hn:cs.length = n) (h:∀ w,C w -> ∀ j v,cs[j]? = some v -> Cl w.heap b (o + j) v) (hk:k (.agg cs.toArray)):EvLdNQ C ⟨b,o,none⟩ n k:=by
 unfold EvLdNQ;refine ⟨cs,hn,fun w' hw j v hj=>?_,hk⟩;have:=(h w' hw j v hj).cell;unfold Addr.add;split
 ·rename_i h0
  subst h0
  simpa using this
 ·exact this
inductive Tr where
 | mk (n:Nd) (ks:List Tr)
def Tr.n:Tr -> Nd
 | .mk n _=>n
def Tr.ks:Tr -> List Tr
 | .mk _ ks=>ks
mutual
def row:Tr -> List Nd
 | .mk n ks=>n :: rows ks
def rows:List Tr -> List Nd
 | []=>[]
 | x :: r=>row x ++ rows r
end
theorem ag' (x:Tr):0 < (row x).length:=by
 cases x;simp [row]
theorem bz':∀ (l m:List Tr),rows (l ++ m) = rows l ++ rows m
 | [],m=>rfl
 | x :: r,m=>by simp [rows,bz' r m]
section
variable {σ:Type} (cnt:σ -> Nd -> Option Nat) (nx:σ -> Nd -> Nat -> σ)
def kidsL (p:σ -> List Nd -> Option (Tr × List Nd)) (g:Nat -> σ):Nat -> Nat -> List Nd -> Option (List Tr × List Nd)
 | _,0,r=>some ([],r)
 | k,c + 1,r=>match p (g k) r with
  | none=>none
  | some (x,r')=>match kidsL p g (k + 1) c r' with
   | none=>none
   | some (xs,r'')=>some (x :: xs,r'')
def aO':Nat -> σ -> List Nd -> Option (Tr × List Nd)
 | 0,_,_=>none
 | _ + 1,_,[]=>none
 | f + 1,s,n :: r=>match cnt s n with
  | none=>none
  | some c=>match kidsL (aO' f) (nx s n) 0 c r with
   | none=>none
   | some (ks,r')=>some (.mk n ks,r')
mutual
def okT:Tr -> σ -> Prop
 | .mk n ks,s=>cnt s n = some ks.length /\ okL ks n s 0
def okL:List Tr -> Nd -> σ -> Nat -> Prop
 | [],_,_,_=>True
 | x :: r,n,s,k=>okT x (nx s n k) /\ okL r n s (k + 1)
end
variable {cnt nx}
theorem ig' {p:σ -> List Nd -> Option (Tr × List Nd)} {n:Nd} {s:σ} (hp:∀ s t x r,p s t = some (x,r) -> t = row x ++ r /\ okT cnt nx x s):∀ (c k:Nat) (t:List Nd) (ks:List Tr) (r:List Nd),kidsL p (nx s n) k c t = some (ks,r) -> t = rows ks ++ r /\ ks.length = c /\ okL cnt nx ks n s k
 | 0,k,t,ks,r,h=>by
  simp only [kidsL,Option.some.injEq,Prod.mk.injEq] at h;obtain ⟨rfl,rfl⟩:=h;exact ⟨rfl,rfl,trivial⟩
 | c + 1,k,t,ks,r,h=>by
  simp only [kidsL] at h;split at h
  ·cases h
  rename_i x r' hx;split at h
  ·cases h
  rename_i xs r'' hxs;simp only [Option.some.injEq,Prod.mk.injEq] at h;obtain ⟨rfl,rfl⟩:=h;obtain ⟨h1,h2⟩:=hp _ _ _ _ hx;obtain ⟨h3,h4,h5⟩:=ig' hp c (k + 1) r' xs r'' hxs;exact ⟨by rw [h1,h3]; simp [rows],by simp [h4],h2,h5⟩
theorem cC':∀ (f:Nat) (s:σ) (t:List Nd) (x:Tr) (r:List Nd),aO' cnt nx f s t = some (x,r) -> t = row x ++ r /\ okT cnt nx x s
 | 0,s,t,x,r,h=>by simp [aO'] at h
 | f + 1,s,[],x,r,h=>by simp [aO'] at h
 | f + 1,s,n :: t,x,r,h=>by
  simp only [aO'] at h;split at h
  ·cases h
  rename_i c hc;split at h
  ·cases h
  rename_i ks r' hk;simp only [Option.some.injEq,Prod.mk.injEq] at h;obtain ⟨rfl,rfl⟩:=h;obtain ⟨h1,h2,h3⟩:=ig' (cC' f) c 0 t ks r' hk;exact ⟨by rw [h1]; simp [row],by rw [hc,h2],h3⟩
mutual
theorem eP':∀ (x:Tr) (f:Nat) (s:σ) (r:List Nd),(row x).length <= f -> okT cnt nx x s -> aO' cnt nx f s (row x ++ r) = some (x,r)
 | .mk n ks,0,s,r,hf,_=>by simp [row] at hf
 | .mk n ks,f + 1,s,r,hf,h=>by
  obtain ⟨h1,h2⟩:=h;have:=mf' ks f n s 0 r (by simpa [row] using hf) h2;simp only [row,List.cons_append,aO',h1,this]
theorem mf':∀ (ks:List Tr) (f:Nat) (n:Nd) (s:σ) (k:Nat) (r:List Nd),(rows ks).length <= f -> okL cnt nx ks n s k -> kidsL (aO' cnt nx f) (nx s n) k ks.length (rows ks ++ r) = some (ks,r)
 | [],f,n,s,k,r,_,_=>rfl
 | x :: l,f,n,s,k,r,hf,h=>by
  obtain ⟨h1,h2⟩:=h;simp only [rows,JK] at hf;have e1:=eP' x f (nx s n k) (rows l ++ r) (by omega) h1;have e2:=mf' l f n s (k + 1) r (by omega) h2;simp only [rows,List.append_assoc,JV,kidsL,e1,e2]
end
theorem eQ' {f:Nat} {s:σ} {t:List Nd} {x:Tr} {r:List Nd} (h:aO' cnt nx f s t = some (x,r)):t.length = (row x).length + r.length:=by
 rw [(cC' f s t x r h).1,JK]
theorem nm' {f g:Nat} {s:σ} {t:List Nd} (hf:t.length <= f) (hg:t.length <= g):aO' cnt nx f s t = aO' cnt nx g s t:=by
 cases h:aO' cnt nx f s t with
 | some p =>
  obtain ⟨x,r⟩:=p;obtain ⟨h1,h2⟩:=cC' _ _ _ _ _ h;subst h1;exact (eP' x g s r (by simp at hg; omega) h2).symm
 | none =>
  cases h':aO' cnt nx g s t with
  | none=>rfl
  | some p =>
   obtain ⟨x,r⟩:=p;obtain ⟨h1,h2⟩:=cC' _ _ _ _ _ h';subst h1;rw [eP' x f s r (by simp at hf; omega) h2] at h;cases h
theorem qD' {f:Nat} {s:σ} {t:List Nd} {a:Nat} (ha:a <= t.length) {x:Tr} {r:List Nd} (h:aO' cnt nx f s (t.drop a) = some (x,r)):r = t.drop (t.length - r.length) /\ a < t.length - r.length /\ r.length <= t.length /\ (row x).length = t.length - r.length - a:=by
 obtain ⟨h1,_⟩:=cC' _ _ _ _ _ h;have hl:=eQ' h;have hp:=ag' x;rw [List.length_drop] at hl;refine ⟨?_,by omega,by omega,by omega⟩;have e:t.length - r.length = a + (row x).length:=by omega
 rw [e,<- List.drop_drop,h1,List.drop_left]
def ih' (s:σ) (t:List Nd):Option Tr:=match aO' cnt nx t.length s t with
 | some (x,[])=>some x
 | _=>none
theorem ld' {s:σ} {t:List Nd} {x:Tr} (h:ih' (cnt:=cnt) (nx:=nx) s t = some x):t = row x /\ okT cnt nx x s:=by
 unfold ih' at h;split at h
 ·rename_i y hy
  obtain rfl:=JB h;obtain ⟨h1,h2⟩:=cC' _ _ _ _ _ hy;exact ⟨by rw [h1]; simp,h2⟩
 ·cases h
theorem oe' {s:σ} {x:Tr} (h:okT cnt nx x s):ih' (cnt:=cnt) (nx:=nx) s (row x) = some x:=by
 unfold ih';have:=eP' x (row x).length s [] (KJ _) h;rw [JD] at this;rw [this]
end
mutual
def og':Tr -> Nat
 | .mk _ ks=>1 + ii' ks
def ii':List Tr -> Nat
 | []=>0
 | x :: r=>og' x + ii' r
end
mutual
theorem sZ':∀ x:Tr,(row x).length = og' x
 | .mk n ks=>by rw [row,og',JV,iS' ks]; omega
theorem iS':∀ l:List Tr,(rows l).length = ii' l
 | []=>rfl
 | x :: r=>by rw [rows,ii',JK,sZ' x,iS' r]
end
theorem oh' (x:Tr):0 < og' x:=by
 cases x;simp only [og'];omega
theorem ij':∀ l:List Tr,l.length <= ii' l
 | []=>KJ _
 | x :: r=>by
  have:=ij' r;have:=oh' x;simp only [ii',JV];omega
end Cd
namespace Tm
open Go Go.Wx Cd
inductive Md where
 | tm | fn | am
def inR (x lo hi:Int):Bool:=decide (lo <= x) && decide (x <= hi)
theorem aF' {x lo hi:Int}:inR x lo hi = true ↔ lo <= x /\ x <= hi:=by simp [inR]
def ah' (n:Nd):Bool :=
 if n.op = 1 then inR n.a 0 1048576 && decide (n.b = 0)
 else if n.op = 2 then (decide (n.a = 0) || decide (n.a = 1)) && inR n.b 1 4
 else if n.op = 3 then inR n.a 0 16 && inR n.b 0 1000
 else if n.op = 4 \/ n.op = 5 \/ n.op = 6 \/ n.op = 7 then decide (n.a = 0) && decide (n.b = 0)
 else if n.op = 8 \/ n.op = 9 then inR n.a 0 63 && decide (n.b = 0)
 else if n.op = 10 then inR n.a 0 63 && inR n.b 0 15
 else if n.op = 11 then inR n.a 0 63 && inR n.b 0 16
 else if n.op = 12 then inR n.b 1 4 && inR n.a 0 (n.b - 1)
 else if n.op = 13 then inR n.a 0 15 && decide (n.b = 0)
 else false
def ar' (n:Nd):Int:=if n.op = 4 \/ n.op = 5 \/ n.op = 6 \/ n.op = 13 then 2 else if n.op = 7 then 3 else if n.op = 11 then 2 + n.b else if n.op = 12 then n.b else 0
def cnt:Md -> Nd -> Option Nat
 | .tm,n=>if ah' n = true /\ n.op ≠ 3 /\ n.op ≠ 13 then some (if n.op = 2 then n.b.toNat else (ar' n).toNat) else none
 | .fn,n=>if n.op = 13 /\ ah' n = true then some 2 else none
 | .am,n=>if n.op = 3 /\ ah' n = true then some 0 else none
def nx:Md -> Nd -> Nat -> Md
 | .tm,n,_=>if n.op = 2 then .am else if n.op = 12 then .fn else .tm
 | .fn,_,_=>.tm
 | .am,_,_=>.am
def nn':Int -> List Tr -> Bool
 | _,[]=>true
 | last,x :: r=>decide (last < x.n.a) && nn' x.n.a r
mutual
def fZ':Tr -> Bool
 | .mk n ks=>(if n.op = 2 then nn' (-1) ks else true) && eo' ks
def eo':List Tr -> Bool
 | []=>true
 | x :: r=>fZ' x && eo' r
end
def endS (t:List Nd) (s:Md) (a:Nat):Option Nat:=match aO' cnt nx t.length s (t.drop a) with
 | some (x,r)=>if fZ' x = true then some (t.length - r.length) else none
 | none=>none
def ga' (t:List Nd) (s:Md):Nat -> Nat -> Option Nat
 | 0,a=>some a
 | c + 1,a=>match endS t s a with
  | none=>none
  | some a'=>ga' t s c a'
def atS (t:List Nd):Nat -> Int -> Nat -> Option Nat
 | 0,_,a=>some a
 | c + 1,last,a=>match t[a]? with
  | some m=>if m.op = 3 /\ ah' m = true /\ last < m.a then atS t c m.a (a + 1) else none
  | none=>none
theorem ik' {f g:Nat} (s:Nat -> Md):∀ (c k:Nat) (r:List Nd),r.length <= f -> r.length <= g -> kidsL (aO' cnt nx f) s k c r = kidsL (aO' cnt nx g) s k c r
 | 0,k,r,_,_=>rfl
 | c + 1,k,r,hf,hg=>by
  simp only [kidsL];rw [nm' (cnt:=cnt) (nx:=nx) (s:=s k) hf hg];cases h:aO' cnt nx g (s k) r with
  | none=>rfl
  | some q =>
   obtain ⟨x,r'⟩:=q;have:=eQ' h;simp only;rw [ik' (f:=f) (g:=g) s c (k + 1) r' (by omega) (by omega)]
theorem mg' (t:List Nd) (s:Md):∀ (c k a:Nat),a <= t.length -> ga' t s c a = match kidsL (aO' cnt nx t.length) (fun _=>s) k c (t.drop a) with
  | some (ks,r)=>if eo' ks = true then some (t.length - r.length) else none
  | none=>none
 | 0,k,a,ha=>by simp [ga',kidsL,eo']; omega
 | c + 1,k,a,ha=>by
  simp only [ga',kidsL,endS];cases h:aO' cnt nx t.length s (t.drop a) with
  | none=>rfl
  | some q =>
   obtain ⟨x,r⟩:=q;obtain ⟨h1,h2,h3,_⟩:=qD' ha h;simp only
   by_cases hx:fZ' x = true
   ·rw [if_pos hx]
    simp only;rw [mg' t s c (k + 1) (t.length - r.length) (by omega),<- h1];cases kidsL (aO' cnt nx t.length) (fun _=>s) (k + 1) c r with
    | none=>rfl
    | some q=>simp [eo',hx]
   ·rw [if_neg hx]
    simp only;cases kidsL (aO' cnt nx t.length) (fun _=>s) (k + 1) c r with
    | none=>rfl
    | some q=>simp [eo',hx]
theorem jW' (t:List Nd) (s:Md) {a:Nat} {n:Nd} (hn:t[a]? = some n) {c:Nat} (hc:cnt s n = some c) :
  endS t s a = match kidsL (aO' cnt nx t.length) (nx s n) 0 c (t.drop (a + 1)) with
  | some (ks,r)=>if fZ' (.mk n ks) = true then some (t.length - r.length) else none
  | none=>none:=by
 have ha:=ai' hn;obtain ⟨x,hx,hd⟩:=af' ha;rw [hn] at hx;obtain rfl:=JB hx;have hl:(t.drop (a + 1)).length <= t.length:=by simp
 unfold endS;rw [hd];have e:t.length = (t.length - 1) + 1:=by omega
 rw [show aO' cnt nx t.length s (n :: t.drop (a + 1)) = aO' cnt nx ((t.length - 1) + 1) s (n :: t.drop (a + 1)) by rw [<- e]];simp only [aO',hc];have hk:=ik' (f:=t.length - 1) (g:=t.length) (nx s n) c 0 (t.drop (a + 1)) (by simp; omega) hl;rw [hk];cases kidsL (aO' cnt nx t.length) (nx s n) 0 c (t.drop (a + 1)) with
 | none=>rfl
 | some q=>rfl
theorem gE' (t:List Nd) (s:Md) {a:Nat} (h:∀ n,t[a]? = some n -> cnt s n = none):endS t s a = none:=by
 by_cases ha:a < t.length
 ·obtain ⟨n,hn,hd⟩:=af' ha
  unfold endS;rw [hd];have e:t.length = (t.length - 1) + 1:=by omega
  rw [show aO' cnt nx t.length s (n :: t.drop (a + 1)) = aO' cnt nx ((t.length - 1) + 1) s (n :: t.drop (a + 1)) by rw [<- e]];simp only [aO',h n hn]
 ·unfold endS
  rw [JY (by omega)];cases t.length <;> simp [aO']
theorem jX' (t:List Nd) (s:Md) {a:Nat} {n:Nd} (hn:t[a]? = some n) {c:Nat} (hc:cnt s n = some c) (h2:s = .tm -> n.op ≠ 2) {s':Md} (hs:∀ k,nx s n k = s') (h2':n.op ≠ 2):endS t s a = ga' t s' c (a + 1):=by
 have ha:=ai' hn;rw [jW' t s hn hc,mg' t s' c 0 (a + 1) (by omega),show nx s n = fun _=>s' from funext hs];cases kidsL (aO' cnt nx t.length) (fun _=>s') 0 c (t.drop (a + 1)) with
 | none=>rfl
 | some q=>simp [fZ',h2']
theorem sj' (t:List Nd):∀ (c k:Nat) (last:Int) (a:Nat),a <= t.length -> atS t c last a = match kidsL (aO' cnt nx t.length) (fun _=>Md.am) k c (t.drop a) with
  | some (ks,r)=>if nn' last ks = true /\ eo' ks = true then some (t.length - r.length) else none
  | none=>none
 | 0,k,last,a,ha=>by simp [atS,kidsL,nn',eo']; omega
 | c + 1,k,last,a,ha=>by
  simp only [atS,kidsL]
  by_cases hlt:a < t.length
  ·obtain ⟨n,hn,hd⟩:=af' hlt
   have e:t.length = (t.length - 1) + 1:=by omega
   have hp:aO' cnt nx t.length .am (t.drop a) = if n.op = 3 /\ ah' n = true then some (.mk n [],t.drop (a + 1)) else none:=by
    skip
    rw [hd,show aO' cnt nx t.length .am (n :: t.drop (a + 1)) = aO' cnt nx ((t.length - 1) + 1) .am (n :: t.drop (a + 1)) by rw [<- e]];simp only [aO',cnt]
    by_cases h:n.op = 3 /\ ah' n = true
    ·simp only [if_pos h,kidsL]
    ·simp only [if_neg h]
   rw [hn];simp only [hp]
   by_cases h:n.op = 3 /\ ah' n = true
   ·rw [if_pos h]
    simp only;have h2:n.op ≠ 2:=by rw [h.1]; decide
    by_cases hl:last < n.a
    ·rw [if_pos ⟨h.1,h.2,hl⟩,sj' t c (k + 1) n.a (a + 1) (by omega)]
     cases kidsL (aO' cnt nx t.length) (fun _=>Md.am) (k + 1) c (t.drop (a + 1)) with
     | none=>rfl
     | some q=>simp [nn',eo',fZ',Tr.n,hl,h2]
    ·rw [if_neg fun q=>hl q.2.2]
     cases kidsL (aO' cnt nx t.length) (fun _=>Md.am) (k + 1) c (t.drop (a + 1)) with
     | none=>rfl
     | some q=>simp [nn',Tr.n,hl]
   ·rw [if_neg h,if_neg fun q=>h ⟨q.1,q.2.1⟩]
  ·rw [List.getElem?_eq_none (by omega)]
   have:aO' cnt nx t.length .am (t.drop a) = none:=by
    skip
    rw [JY (by omega)];cases t.length <;> simp [aO']
   simp only [this]
theorem oi' (t:List Nd) {a:Nat} {n:Nd} (hn:t[a]? = some n) (h2:n.op = 2) (hp:ah' n = true):endS t .tm a = atS t n.b.toNat (-1) (a + 1):=by
 have ha:=ai' hn;have hc:cnt .tm n = some n.b.toNat:=by simp [cnt,hp,h2]
 rw [jW' t .tm hn hc,sj' t n.b.toNat 0 (-1) (a + 1) (by omega),show nx .tm n = fun _=>Md.am from funext fun k=>by simp [nx,h2]];cases kidsL (aO' cnt nx t.length) (fun _=>Md.am) 0 n.b.toNat (t.drop (a + 1)) with
 | none=>rfl
 | some q=>simp [fZ',h2]
theorem le' {t:List Nd} {s:Md} {a e:Nat} (h:endS t s a = some e):a < e /\ e <= t.length:=by
 unfold endS at h;split at h
 ·rename_i x r hx
  split at h
  ·obtain rfl:=JB h
   have hl:=eQ' hx;have hp:=ag' x;rw [List.length_drop] at hl;omega
  ·cases h
 ·cases h
def Ok (s:Md) (x:Tr):Prop:=okT cnt nx x s /\ fZ' x = true
def sk' (t:List Nd):Option Tr:=match ih' (cnt:=cnt) (nx:=nx) Md.tm t with
 | some x=>if fZ' x = true then some x else none
 | none=>none
theorem oj' {t:List Nd} {x:Tr} (h:sk' t = some x):t = row x /\ Ok .tm x:=by
 unfold sk' at h;split at h
 ·rename_i y hy
  split at h
  ·rename_i hi
   obtain rfl:=JB h;obtain ⟨h1,h2⟩:=ld' hy;exact ⟨h1,h2,hi⟩
  ·cases h
 ·cases h
theorem lf' {x:Tr} (h:Ok .tm x):sk' (row x) = some x:=by
 unfold sk';rw [oe' h.1];simp [h.2]
theorem lg' {s:Md} {x:Tr} (h:Ok s x) (p q:List Nd):endS (p ++ (row x ++ q)) s p.length = some (p.length + (row x).length):=by
 unfold endS;rw [List.drop_left,eP' x _ s q (by simp; omega) h.1];simp only [h.2,if_true]
 congr 1
 simp;omega
theorem ol' (t:List Nd):endS t .tm 0 = some t.length ↔ (sk' t).isSome:=by
 unfold endS sk' ih';rw [List.drop_zero];cases h:aO' cnt nx t.length Md.tm t with
 | none=>simp
 | some q =>
  obtain ⟨x,r⟩:=q;have hl:=eQ' h;have hp:=ag' x;cases r with
  | nil=>by_cases hi:fZ' x = true <;> simp [hi]
  | cons y r =>
   simp only [JV] at hl
   by_cases hi:fZ' x = true
   ·simp [hi]; omega
   ·simp [hi]
end Tm
namespace Tm
open Go Go.Wx Cd
def aJ' (n:Nd) (k:Int):Int:=if ((n.op = 4 \/ n.op = 5) /\ k = 1) \/ (n.op = 7 /\ k = 2) then 1 else 0
def arC (n:Nd) (nb:Int) (k:Int):Int:=if n.op = 13 then (if k = 1 then nb else 0) else aJ' n k
theorem eR' {n:Nd} (h:n.op ≠ 13) (nb k:Int):arC n nb k = aJ' n k:=by simp [arC,h]
section
variable {S:Type} (one:S -> Nd -> Int -> Option S) (raw:S -> Nd -> S)
mutual
def wT:Tr -> Int -> Int -> S -> Option S
 | .mk n ks,d,nb,s=>match (if n.op = 3 \/ n.op = 13 then some (raw s n) else one s n d) with
  | none=>none
  | some s1=>wK ks n nb 0 d s1
def wK:List Tr -> Nd -> Int -> Int -> Int -> S -> Option S
 | [],_,_,_,_,s=>some s
 | x :: r,n,nb,k,d,s=>match wT x (d + arC n nb k) n.b s with
  | none=>none
  | some s1=>wK r n nb (k + 1) d s1
end
end
def eI' {U:Type} (s:U × List Nd) (n:Nd):U × List Nd:=(s.1,s.2 ++ [n])
theorem mh' {U:Type} (one:U × List Nd -> Nd -> Int -> Option (U × List Nd)):∀ (ks:List Tr) (n:Nd) (nb k d:Int) (s:U × List Nd),okL cnt nx ks n .tm k.toNat -> n.op = 2 -> wK one eI' ks n nb k d s = some (s.1,s.2 ++ rows ks)
 | [],n,nb,k,d,s,_,_=>by simp [wK,rows]
 | .mk m l :: r,n,nb,k,d,s,h,h2=>by
  obtain ⟨h3,h4⟩:=h;have hm:cnt .am m = some l.length:=by
   have:=h3.1
   rwa [show nx Md.tm n k.toNat = .am by simp [nx,h2]] at this
  have h5:m.op = 3 /\ l = []:=by
   simp only [cnt] at hm;split at hm
   ·rename_i q
    exact ⟨q.1,List.length_eq_zero_iff.1 (JB hm).symm⟩
   ·cases hm
  obtain ⟨h6,rfl⟩:=h5;have h7:∀ k',okL cnt nx r n .tm k':=by
   have:∀ (r:List Tr) (k k':Nat),okL cnt nx r n .tm k -> okL cnt nx r n .tm k':=by
    intro r
    induction r with
    | nil=>intros; trivial
    | cons y r ih =>
     intro k k' q;refine ⟨?_,ih _ _ q.2⟩;have:=q.1
     rwa [show nx Md.tm n k = nx Md.tm n k' from rfl] at this
   exact fun k'=>this r _ k' h4
  simp only [wK,wT,h6,true_or,if_true,eI'];rw [mh' one r n nb (k + 1) d _ (h7 _) h2];simp [rows,row]
theorem lh' {n:Nd} {s:Md}:∀ {r:List Tr} {k:Nat} (k':Nat),okL cnt nx r n s k -> okL cnt nx r n s k'
 | [],_,_,_=>trivial
 | y :: r,k,k',q=>by
  refine ⟨?_,lh' (r:=r) _ q.2⟩;have:=q.1;cases s <;> exact this
theorem cG' {x:Tr} {r:List Tr} (h:eo' (x :: r) = true):fZ' x = true /\ eo' r = true:=by simpa [eo'] using h
theorem Ok.kids {n:Nd} {ks:List Tr} {s:Md} (h:Ok s (.mk n ks)):cnt s n = some ks.length /\ okL cnt nx ks n s 0 /\ eo' ks = true:=by
 obtain ⟨⟨h1,h2⟩,h3⟩:=h;refine ⟨h1,h2,?_⟩;simp only [fZ',Bool.and_eq_true] at h3;exact h3.2
theorem cd' {n:Nd} {s:Md} {x:Tr} {r:List Tr} {k:Nat} (h:okL cnt nx (x :: r) n s k) (hi:eo' (x :: r) = true):Ok (nx s n 0) x /\ okL cnt nx r n s k /\ eo' r = true:=by
 have h1:=h.1;rw [show nx s n k = nx s n 0 by cases s <;> rfl] at h1;exact ⟨⟨h1,(cG' hi).1⟩,lh' _ h.2,(cG' hi).2⟩
end Tm
namespace Tm
open Go Go.Wx Cd
section
variable {U:Type} {one:U × List Nd -> Nd -> Int -> Option (U × List Nd)}
mutual
theorem jY' {G:Nat} (hG:1 <= G) (h:∀ u l n d u' l',one (u,l) n d = some (u',l') -> l'.length <= l.length + G):∀ (x:Tr) (d nb:Int) (u:U) (l:List Nd) (u':U) (l':List Nd),wT one eI' x d nb (u,l) = some (u',l') -> l'.length <= l.length + G * (row x).length
 | .mk n ks,d,nb,u,l,u',l',e=>by
  simp only [wT] at e;split at e
  ·cases e
  ·rename_i s1 hs1
   obtain ⟨u1,l1⟩:=s1;have h1:l1.length <= l.length + G:=by
    split at hs1
    ·simp only [eI',Option.some.injEq,Prod.mk.injEq] at hs1
     rw [<- hs1.2];simp;omega
    ·exact h _ _ _ _ _ _ hs1
   have h2:=sl' hG h ks n nb 0 d u1 l1 u' l' e;simp only [row,JV,Nat.mul_add];omega
theorem sl' {G:Nat} (hG:1 <= G) (h:∀ u l n d u' l',one (u,l) n d = some (u',l') -> l'.length <= l.length + G):∀ (ks:List Tr) (n:Nd) (nb k d:Int) (u:U) (l:List Nd) (u':U) (l':List Nd),wK one eI' ks n nb k d (u,l) = some (u',l') -> l'.length <= l.length + G * (rows ks).length
 | [],n,nb,k,d,u,l,u',l',e=>by
  simp only [wK,Option.some.injEq,Prod.mk.injEq] at e;rw [e.2];simp [rows]
 | x :: r,n,nb,k,d,u,l,u',l',e=>by
  simp only [wK] at e;split at e
  ·cases e
  ·rename_i s1 hs1
   obtain ⟨u1,l1⟩:=s1;have h1:=jY' hG h x _ _ u l u1 l1 hs1;have h2:=sl' hG h r n nb (k + 1) d u1 l1 u' l' e;simp only [rows,JK,Nat.mul_add];omega
end
theorem ta' {x:Tr} (h:x.n.op ≠ 13) (d nb nb':Int) (s:U × List Nd):wT one eI' x d nb s = wT one eI' x d nb' s:=by
 obtain ⟨n,ks⟩:=x;simp only [Tr.n] at h;simp only [wT];split
 ·rfl
 ·rename_i s1 _
  have:∀ (r:List Tr) (k:Int) (s:U × List Nd),wK one eI' r n nb k d s = wK one eI' r n nb' k d s:=by
   intro r
   induction r with
   | nil=>intros; rfl
   | cons y r ih =>
    intro k s;simp only [wK,eR' h,ih]
  exact this _ _ _
end
theorem bG' {n:Nd} {c:Nat} (h:cnt .tm n = some c):ah' n = true /\ n.op ≠ 3 /\ n.op ≠ 13 /\ c = if n.op = 2 then n.b.toNat else (ar' n).toNat:=by
 simp only [cnt] at h;split at h
 ·rename_i q
  exact ⟨q.1,q.2.1,q.2.2,(JB h).symm⟩
 ·cases h
theorem fO' {n:Nd} {c:Nat} (h:cnt .fn n = some c):ah' n = true /\ n.op = 13 /\ c = 2:=by
 simp only [cnt] at h;split at h
 ·rename_i q
  exact ⟨q.2,q.1,(JB h).symm⟩
 ·cases h
theorem Ok.tm {n:Nd} {ks:List Tr} (h:Ok .tm (.mk n ks)):ah' n = true /\ n.op ≠ 3 /\ n.op ≠ 13:=by
 obtain ⟨h1,_⟩:=h.kids;obtain ⟨a,b,c,_⟩:=bG' h1;exact ⟨a,b,c⟩
theorem Ok.fn {x:Tr} (h:Ok .fn x):∃ f ty bo,x = .mk f [ty,bo] /\ f.op = 13 /\ ah' f = true /\ Ok .tm ty /\ Ok .tm bo:=by
 obtain ⟨f,ks⟩:=x;obtain ⟨h1,h2,h3⟩:=h.kids;obtain ⟨a,b,c⟩:=fO' h1
 match ks,c with
 | [ty,bo],_ =>
  obtain ⟨k1,k2,k3⟩:=cd' h2 h3;obtain ⟨k4,_,_⟩:=cd' k2 k3;exact ⟨f,ty,bo,rfl,b,a,k1,k4⟩
theorem mi':∀ {ks:List Tr} {n:Nd},n.op = 2 -> okL cnt nx ks n .tm 0 -> (rows ks).length = ks.length
 | [],n,_,_=>rfl
 | .mk m l :: r,n,h2,h=>by
  obtain ⟨h3,h4⟩:=h;have hm:cnt .am m = some l.length:=by
   have:=h3.1
   rwa [show nx Md.tm n 0 = .am by simp [nx,h2]] at this
  have h5:l = []:=by
   simp only [cnt] at hm;split at hm
   ·exact List.length_eq_zero_iff.1 (JB hm).symm
   ·cases hm
  subst h5;have:=mi' h2 (lh' 0 h4);simp [rows,row,this]
theorem ba' {n:Nd} (h:ah' n = true):0 <= n.b /\ n.b <= 1000 /\ 0 <= n.a /\ n.a <= 1048576:=by
 simp only [ah'] at h
 repeat' split at h
 all_goals first | (simp [inR] at h; omega) | contradiction
theorem li' (n:Nd) (k:Int):0 <= aJ' n k /\ aJ' n k <= 1:=by
 unfold aJ';split <;> omega
end Tm
namespace Tm
open Go Go.Wx Cd
section
variable (h:Int -> Nd -> Option Tr)
mutual
def gT:Tr -> Int -> Int -> Option Tr
 | .mk n ks,d,nb=>if n.op = 1 then h d n else match gK ks n nb 0 d with
  | none=>none
  | some ks'=>some (.mk n ks')
def gK:List Tr -> Nd -> Int -> Int -> Int -> Option (List Tr)
 | [],_,_,_,_=>some []
 | x :: r,n,nb,k,d=>match gT x (d + arC n nb k) n.b with
  | none=>none
  | some y=>match gK r n nb (k + 1) d with
   | none=>none
   | some r'=>some (y :: r')
end
def gb' {U:Type} (s:U × List Nd) (n:Nd) (d:Int):Option (U × List Nd):=if n.op = 1 then match h d n with
  | none=>none
  | some y=>some (s.1,s.2 ++ row y)
 else some (s.1,s.2 ++ [n])
end
section
variable {h:Int -> Nd -> Option Tr} {U:Type}
theorem ey' {n:Nd} {s:Md} {c:Nat} (hc:cnt s n = some c) (h1:n.op = 1):c = 0:=by
 cases s with
 | tm =>
  obtain ⟨_,_,_,e⟩:=bG' hc;rw [e];simp [h1,ar']
 | fn =>
  obtain ⟨_,e,_⟩:=fO' hc;omega
 | am =>
  simp only [cnt] at hc;split at hc
  ·rename_i q
   omega
  ·cases hc
mutual
theorem vL':∀ (x:Tr) (s:Md) (d nb:Int) (u:U) (l:List Nd),okT cnt nx x s -> wT (gb' h) eI' x d nb (u,l) = match gT h x d nb with
  | none=>none
  | some y=>some (u,l ++ row y)
 | .mk n ks,s,d,nb,u,l,hx=>by
  obtain ⟨hc,hk⟩:=hx
  by_cases h1:n.op = 1
  ·have:ks = []:=List.length_eq_zero_iff.1 (ey' hc h1)
   subst this;simp only [wT,gT,gb',h1,if_true];rw [if_neg (by decide)];cases h d n with
   | none=>rfl
   | some y=>simp [wK]
  ·simp only [wT,gT,gb',if_neg h1,eI']
   have e:(if n.op = 3 \/ n.op = 13 then some (u,l ++ [n]) else some (u,l ++ [n])) = some (u,l ++ [n]):=by split <;> rfl
   rw [e];simp only;rw [wK_g ks n s nb 0 d 0 u (l ++ [n]) hk];cases gK h ks n nb 0 d with
   | none=>rfl
   | some ks'=>simp [row]
theorem wK_g:∀ (ks:List Tr) (n:Nd) (s:Md) (nb k d:Int) (j:Nat) (u:U) (l:List Nd),okL cnt nx ks n s j -> wK (gb' h) eI' ks n nb k d (u,l) = match gK h ks n nb k d with
  | none=>none
  | some ks'=>some (u,l ++ rows ks')
 | [],n,s,nb,k,d,j,u,l,_=>by simp [wK,gK,rows]
 | x :: r,n,s,nb,k,d,j,u,l,hk=>by
  obtain ⟨hx,hr⟩:=hk;simp only [wK,gK];rw [vL' x (nx s n j) _ _ u l hx];cases gT h x (d + arC n nb k) n.b with
  | none=>rfl
  | some y =>
   simp only;rw [wK_g r n s nb (k + 1) d (j + 1) u (l ++ row y) hr];cases gK h r n nb (k + 1) d with
   | none=>rfl
   | some r'=>simp [rows,List.append_assoc]
end
mutual
theorem tb' (hg:∀ d n y,ah' n = true -> n.op = 1 -> h d n = some y -> Ok .tm y):∀ (x:Tr) (s:Md) (d nb:Int) (y:Tr),Ok s x -> gT h x d nb = some y -> Ok s y /\ (x.n.op ≠ 1 -> y.n = x.n)
 | .mk n ks,s,d,nb,y,hx,e=>by
  obtain ⟨hc,hk,hi⟩:=hx.kids
  by_cases h1:n.op = 1
  ·simp only [gT,h1,if_true] at e
   have hs:s = .tm:=by
    cases s with
    | tm=>rfl
    | fn =>
     obtain ⟨_,e,_⟩:=fO' hc;omega
    | am =>
     simp only [cnt] at hc;split at hc
     ·rename_i q
      omega
     ·cases hc
   subst hs;obtain ⟨hp,_⟩:=bG' hc;exact ⟨hg d n y hp h1 e,fun q=>absurd h1 q⟩
  ·simp only [gT,if_neg h1] at e
   split at e
   ·cases e
   rename_i ks' hks;obtain rfl:=JB e;obtain ⟨a1,a2,a3,a4⟩:=uK' hg ks n s nb 0 d 0 ks' hk hi hks;refine ⟨⟨⟨by rw [hc,a1],a2⟩,?_⟩,fun _=>rfl⟩;simp only [fZ',a3,Bool.and_true]
   by_cases h2:n.op = 2
   ·have h22:=hx.2
    simp only [fZ',if_pos h2,Bool.and_eq_true] at h22 ⊢;have hs:nx s n 0 = .am:=by
     cases s with
     | tm=>simp [nx,h2]
     | fn =>
      obtain ⟨_,e,_⟩:=fO' hc;omega
     | am=>rfl
    exact a4 hs (-1) h22.1
   ·simp [h2]
theorem uK' (hg:∀ d n y,ah' n = true -> n.op = 1 -> h d n = some y -> Ok .tm y):∀ (ks:List Tr) (n:Nd) (s:Md) (nb k d:Int) (j:Nat) (ks':List Tr),okL cnt nx ks n s j -> eo' ks = true -> gK h ks n nb k d = some ks' -> ks.length = ks'.length /\ okL cnt nx ks' n s j /\ eo' ks' = true /\ (nx s n 0 = .am -> ∀ last,nn' last ks = true -> nn' last ks' = true)
 | [],n,s,nb,k,d,j,ks',_,_,e=>by
  simp only [gK,Option.some.injEq] at e;subst e;exact ⟨rfl,trivial,rfl,fun _ _ h=>h⟩
 | x :: r,n,s,nb,k,d,j,ks',hk,hi,e=>by
  obtain ⟨hx,hr⟩:=hk;obtain ⟨i1,i2⟩:=cG' hi;simp only [gK] at e;split at e
  ·cases e
  rename_i y hy;split at e
  ·cases e
  rename_i r' hr';obtain rfl:=JB e;obtain ⟨⟨b1,b2⟩,b3⟩:=tb' hg x (nx s n j) _ _ y ⟨hx,i1⟩ hy;obtain ⟨a1,a2,a3,a4⟩:=uK' hg r n s nb (k + 1) d (j + 1) r' hr i2 hr';refine ⟨by simp [a1],⟨b1,a2⟩,by simp [eo',b2,a3],fun hs last hl=>?_⟩;simp only [nn',Bool.and_eq_true,decide_eq_true_eq] at hl ⊢;have hxa:x.n.op ≠ 1:=by
   obtain ⟨m,l⟩:=x;have hm:=hx.1;rw [show nx s n j = .am by rw [<- hs]; cases s <;> rfl] at hm;simp only [cnt] at hm;split at hm
   ·rename_i q
    simp only [Tr.n];omega
   ·cases hm
  rw [b3 hxa];exact ⟨hl.1,a4 hs _ hl.2⟩
end
end
def cH' (by_ fr:Int) (d:Int) (n:Nd):Option Tr:=if fr + d <= n.a then (if by_ > 1048576 - n.a then none else some (.mk { n with a:=n.a + by_ } [])) else some (.mk n [])
def gc' (x:Tr) (by_ fr:Int):Option Tr:=gT (cH' by_ fr) x 0 0
theorem il' {n:Nd} (h1:n.op = 1) (ha:0 <= n.a) (ha':n.a <= 1048576) (hb:n.b = 0):Ok .tm (.mk n []):=by
 refine ⟨⟨?_,trivial⟩,by simp [fZ',eo',h1]⟩;have:ah' n = true:=by simp [ah',h1,inR,ha,ha',hb]
 simp [cnt,this,h1,ar']
theorem mj' {by_ fr d:Int} {n:Nd} {y:Tr} (hb:0 <= by_) (hp:ah' n = true) (h1:n.op = 1) (e:cH' by_ fr d n = some y):Ok .tm y:=by
 have hn:inR n.a 0 1048576 = true /\ n.b = 0:=by simpa [ah',h1] using hp
 have:=aF'.1 hn.1;simp only [cH'] at e;split at e
 ·split at e
  ·cases e
  ·obtain rfl:=JB e
   exact il' (by simpa using h1) (by simp only; omega) (by simp only; omega) hn.2
 ·obtain rfl:=JB e
  exact il' h1 this.1 this.2 hn.2
theorem qE' {x y:Tr} {by_ fr:Int} (hb:0 <= by_) (hx:Ok .tm x) (e:gc' x by_ fr = some y):Ok .tm y :=
 (tb' (fun d n y hp h1 e=>mj' hb hp h1 e) x .tm 0 0 y hx e).1
end Tm
namespace Go.Wx
abbrev CC (f:FuncId) (args:Array Value) (w:World) (R:Ending -> World -> Prop):Prop:=di' Go.Proofs.Tryz.prog f /\ Calls Go.Proofs.Tryz.prog f args w R
end Go.Wx
namespace Go.Proofs.YtpealcfjbcpoiaaGreat
open Go.Wx
def τ:Tau where
 tab:=[(7,[(0,1,false),(1,1,false),(2,1,false),(3,1,false)],[0,0,1,7]),(8,[(0,1,false),(1,1,false),(2,1,false),(3,1,false)],[0,0,1,7]),(13,[(0,1,false),(1,1,false)],[9,11]),(14,[(0,1,false),(1,1,false)],[9,11]),(18,[(0,1,false)],[3]),(19,[(0,1,false)],[3]),(25,[(0,1,false),(1,1,false),(2,1,false),(3,1,false),(4,1,false)],[0,2,2,0,2]),(26,[(0,1,false),(1,1,false),(2,1,false),(3,1,false),(4,1,false)],[0,2,2,0,2]),(30,[(0,5,true),(5,1,false),(6,1,false),(7,1,false),(8,1,false)],[0,2,2,0,2,2,2,2,0]),(31,[(0,5,true),(5,1,false),(6,1,false),(7,1,false),(8,1,false)],[0,2,2,0,2,2,2,2,0]),(34,[(0,1,false),(1,1,false)],[2,2]),(35,[(0,1,false),(1,1,false)],[2,2]),(44,[(0,1,false),(1,1,false),(2,1,false)],[0,0,0]),(45,[(0,1,false),(1,1,false),(2,1,false)],[0,0,0]),(54,[(0,1,false),(1,1,false),(2,1,false),(3,1,false),(4,1,false),(5,1,false),(6,1,false)],[0,2,2,2,2,2,2]),(55,[(0,1,false),(1,1,false),(2,1,false),(3,1,false),(4,1,false),(5,1,false),(6,1,false)],[0,2,2,2,2,2,2]),(57,[(0,1,false),(1,1,false)],[2,2]),(58,[(0,1,false),(1,1,false)],[2,2]),(60,[(0,5,true),(5,1,false),(6,1,false)],[0,2,2,0,2,0,0]),(61,[(0,5,true),(5,1,false),(6,1,false)],[0,2,2,0,2,0,0]),(67,[(0,1,false)],[0]),(68,[(0,1,false)],[0]),(85,[(0,1,false),(1,1,false)],[0,0]),(86,[(0,1,false),(1,1,false)],[0,0]),(94,[(0,1,false)],[0]),(95,[(0,1,false)],[0]),(97,[(0,5,true),(5,1,false)],[0,2,2,0,2,0]),(98,[(0,5,true),(5,1,false)],[0,2,2,0,2,0]),(122,[(0,1,false),(1,1,false)],[0,0]),(123,[(0,1,false),(1,1,false)],[0,0]),(124,[(0,1,false),(1,1,false),(2,1,false)],[0,0,0]),(125,[(0,1,false),(1,1,false),(2,1,false)],[0,0,0]),(134,[(0,1,false),(1,1,false)],[0,0]),(135,[(0,1,false),(1,1,false)],[0,0]),(160,[(0,1,false),(1,1,false)],[2,2]),(161,[(0,1,false),(1,1,false)],[2,2]),(170,[(0,5,true),(5,1,false)],[0,2,2,0,2,2]),(171,[(0,5,true),(5,1,false)],[0,2,2,0,2,2]),(180,[(0,5,true),(5,1,false),(6,1,false)],[0,2,2,0,2,2,0]),(181,[(0,5,true),(5,1,false),(6,1,false)],[0,2,2,0,2,2,0]),(189,[(0,5,true),(5,1,false),(6,1,false),(7,1,false)],[0,2,2,0,2,2,0,0]),(190,[(0,5,true),(5,1,false),(6,1,false),(7,1,false)],[0,2,2,0,2,2,0,0]),(234,[(0,1,false),(1,1,false),(2,1,false),(3,1,false)],[3,3,3,9]),(235,[(0,1,false),(1,1,false),(2,1,false),(3,1,false)],[3,3,3,9]),(245,[(0,1,false),(1,1,false),(2,1,false),(3,1,false),(4,1,false),(5,1,false),(6,1,false),(7,1,false),(8,1,false),(9,1,false),(10,1,false)],[11,11,6,7,7,7,7,5,3,12,12]),(246,[(0,1,false),(1,1,false),(2,1,false),(3,1,false),(4,1,false),(5,1,false),(6,1,false),(7,1,false),(8,1,false),(9,1,false),(10,1,false)],[11,11,6,7,7,7,7,5,3,12,12])]
 ones:=[(2,0),(3,0),(4,1),(5,7),(6,7),(9,9),(10,9),(11,9),(12,11),(15,3),(16,3),(17,3),(20,8),(21,12),(22,2),(23,2),(24,2),(27,2),(28,2),(29,2),(36,0),(52,2),(53,2),(72,3),(76,4),(77,4),(84,4),(99,2),(101,2),(102,2),(128,2),(138,2),(142,4),(155,2),(159,3),(172,2),(173,0),(179,11),(188,3),(195,0),(202,6),(204,11),(213,11),(217,3),(219,2),(223,3),(239,7),(240,7),(242,3),(243,12),(244,12),(247,3),(1,5),(32,5),(33,5),(37,5),(39,5),(41,5),(42,5),(43,5),(46,5),(47,5),(48,5),(49,5),(50,5),(51,5),(56,5),(59,5),(62,5),(63,5),(64,5),(65,5),(66,5),(69,5),(71,5),(73,5),(74,5),(75,5),(79,5),(80,5),(81,5),(82,5),(83,5),(87,5),(88,5),(89,5),(90,5),(92,5),(93,5),(100,5),(104,5),(105,5),(106,5),(107,5),(108,5),(109,5),(110,5),(112,5),(113,5),(114,5),(115,5),(117,5),(118,5),(119,5),(120,5),(121,5),(126,5),(129,5),(130,5),(131,5),(132,5),(133,5),(136,5),(137,5),(140,5),(141,5),(143,5),(144,5),(145,5),(146,5),(147,5),(148,5),(149,5),(150,5),(151,5),(152,5),(153,5),(154,5),(156,5),(157,5),(158,5),(162,5),(163,5),(164,5),(165,5),(166,5),(168,5),(169,5),(174,5),(175,5),(176,5),(177,5),(178,5),(183,5),(184,5),(185,5),(186,5),(187,5),(191,5),(192,5),(193,5),(194,5),(197,5),(198,5),(199,5),(200,5),(201,5),(203,5),(205,5),(206,5),(207,5),(208,5),(209,5),(210,5),(211,5),(212,5),(214,5),(215,5),(216,5),(218,5),(220,5),(221,5),(222,5),(225,5),(226,5),(227,5),(228,5),(229,5),(230,5),(231,5),(232,5),(233,5),(241,5)]
 slcs:=[(22,125,3,24),(23,55,7,152),(24,86,2,16),(27,35,2,48),(28,45,3,24),(29,45,3,24),(52,29,1,24),(53,58,2,48),(99,35,2,48),(101,135,2,16),(102,135,2,16),(128,81,1,8),(138,3,1,8),(155,102,1,24),(172,173,1,8),(219,52,1,24)]
theorem τok:ax' Tryz.prog τ:=lb' (by kernel_rfl)
open Go.Wx Cd Tm
abbrev ndV (n:Nd):Value:=.agg #[iV n.op,iV n.a,iV n.b]
theorem eS' (n:Nd) (w:World):CC 70 #[ndV n] w (fun e w'=>e = .returned (.bool (inR n.a 0 63)) /\ Kp [] w w'):=by
 refine oF Tryz.func70 ?_;refine cO (args:=[_]) 11 [.tmp 2] τok Tryz.func70 ?_;refine new fun b w1 hb hB hs hk=>?_;have hB:Bk w1.heap b [iV n.op,iV n.a,iV n.b] 45:=hB;refine ld (hB.cl rfl).cell ?_;refine ac' (fun h=>?_) (fun h=>?_)
 ·refine ld (hB.cl rfl).cell ?_
  refine ⟨?_,hk⟩;have:decide (n.a < 64) = inR n.a 0 63:=by
   simp [inR,h];omega
  rw [<- this]
  rfl
 ·refine ⟨?_,hk⟩
  have:inR n.a 0 63 = false:=by simp [inR,h]
  rw [this]
  rfl
theorem iT' (n:Nd) (hb2:I64 (2 + n.b)) (w:World):CC 44 #[ndV n] w (fun e w'=>e = .returned (iV (ar' n)) /\ Kp [] w w'):=by
 refine oF Tryz.func44 ?_;refine cO (args:=[_]) 21 [.tmp 2] τok Tryz.func44 ?_;refine new fun b w1 hb hB hs hk=>?_;have hB:Bk w1.heap b [iV n.op,iV n.a,iV n.b] 45:=hB;unfold I64 at hb2;refine ld (hB.cl rfl).cell ?_;refine ac' (fun h4=>?_) (fun h4=>?_)
 ·refine au' h4 ?_
  exact ⟨by simp [ar',h4]; rfl,hk⟩
 refine ac' (fun h5=>?_) (fun h5=>?_)
 ·refine au' h5 ?_
  exact ⟨by simp [ar',h5]; rfl,hk⟩
 refine ac' (fun h6=>?_) (fun h6=>?_)
 ·refine au' h6 ?_
  exact ⟨by simp [ar',h6]; rfl,hk⟩
 refine ac' (fun h13=>?_) (fun h13=>?_)
 ·exact ⟨by simp [ar',h13]; rfl,hk⟩
 refine ac' (fun h7=>?_) (fun h7=>?_)
 ·exact ⟨by simp [ar',h7]; rfl,hk⟩
 refine ac' (fun h11=>?_) (fun h11=>?_)
 ·refine ld (hB.cl rfl).cell ?_
  refine i6 ?_;exact ⟨by simp [ar',h11]; rfl,hk⟩
 refine ac' (fun h12=>?_) (fun h12=>?_)
 ·refine ld (hB.cl rfl).cell ?_
  exact ⟨by simp [ar',h12]; rfl,hk⟩
 ·exact ⟨by simp [ar',h4,h5,h6,h7,h11,h12,h13]; rfl,hk⟩
theorem gF' (n:Nd) (k:Int) (w:World):CC 47 #[ndV n,iV k] w (fun e w'=>e = .returned (iV (aJ' n k)) /\ Kp [] w w'):=by
 refine oF Tryz.func47 ?_;refine cO (args:=[_,_]) 25 [.tmp 4] τok Tryz.func47 ?_;refine new fun b w1 hb hB hs hk=>?_;have hB:Bk w1.heap b [iV n.op,iV n.a,iV n.b] 45:=hB
 repeat' (first | refine ld (hB.cl rfl).cell ?_ | refine au' (by assumption) ?_ | refine cj' (by assumption) ?_ | refine ac' (fun _=>?_) (fun _=>?_))
 all_goals exact ⟨by simp_all [aJ'] <;> rfl,hk⟩
theorem gG' (n:Nd) (w:World):CC 42 #[ndV n] w (fun e w'=>e = .returned (.bool (ah' n)) /\ Kp [] w w'):=by
 refine oF Tryz.func42 ?_;refine cO (args:=[_]) 148 [.tmp 2] τok Tryz.func42 ?_;refine new fun b w1 hb hB hs hk=>?_;have hB:Bk w1.heap b [iV n.op,iV n.a,iV n.b] 45:=hB;obtain ⟨P,hP⟩:∃ P,ah' n = P:=⟨_,rfl⟩
 rw [hP];have fin:∀ Q:Bool,Q = P -> (Ending.returned (one [.bool Q]):Ending) = .returned (.bool P):=fun Q h=>by rw [h]; rfl
 refine ld (hB.cl rfl).cell ?_;refine ac' (fun h1=>?_) (fun h1=>?_)
 ·refine ld (hB.cl rfl).cell ?_
  repeat' (first | refine ld (hB.cl rfl).cell ?_ | refine au' (by assumption) ?_ | refine cj' (by assumption) ?_ | refine ac' (fun _=>?_) (fun _=>?_))
  all_goals exact ⟨fin _ (by rw [<- hP]; simp [ah',inR,h1, *]),hk⟩
 refine ac' (fun h2=>?_) (fun h2=>?_)
 ·skip
  repeat' (first | refine ld (hB.cl rfl).cell ?_ | refine au' (by assumption) ?_ | refine cj' (by assumption) ?_ | refine ac' (fun _=>?_) (fun _=>?_))
  all_goals exact ⟨fin _ (by rw [<- hP]; simp [ah',inR,h1,h2, *]),hk⟩
 refine ac' (fun h3=>?_) (fun h3=>?_)
 ·skip
  repeat' (first | refine ld (hB.cl rfl).cell ?_ | refine au' (by assumption) ?_ | refine cj' (by assumption) ?_ | refine ac' (fun _=>?_) (fun _=>?_))
  all_goals exact ⟨fin _ (by rw [<- hP]; simp [ah',inR,h1,h2,h3, *]),hk⟩
 refine ac' (fun h4=>?_) (fun h4=>?_)
 ·refine au' h4 ?_
  repeat' (first | refine ld (hB.cl rfl).cell ?_ | refine au' (by assumption) ?_ | refine cj' (by assumption) ?_ | refine ac' (fun _=>?_) (fun _=>?_))
  all_goals exact ⟨fin _ (by rw [<- hP]; simp [ah',inR,h4, *]),hk⟩
 refine ac' (fun h5=>?_) (fun h5=>?_)
 ·refine au' h5 ?_
  repeat' (first | refine ld (hB.cl rfl).cell ?_ | refine au' (by assumption) ?_ | refine cj' (by assumption) ?_ | refine ac' (fun _=>?_) (fun _=>?_))
  all_goals exact ⟨fin _ (by rw [<- hP]; simp [ah',inR,h5, *]),hk⟩
 refine ac' (fun h6=>?_) (fun h6=>?_)
 ·refine au' h6 ?_
  repeat' (first | refine ld (hB.cl rfl).cell ?_ | refine au' (by assumption) ?_ | refine cj' (by assumption) ?_ | refine ac' (fun _=>?_) (fun _=>?_))
  all_goals exact ⟨fin _ (by rw [<- hP]; simp [ah',inR,h6, *]),hk⟩
 refine ac' (fun h7=>?_) (fun h7=>?_)
 ·skip
  repeat' (first | refine ld (hB.cl rfl).cell ?_ | refine au' (by assumption) ?_ | refine cj' (by assumption) ?_ | refine ac' (fun _=>?_) (fun _=>?_))
  all_goals exact ⟨fin _ (by rw [<- hP]; simp [ah',inR,h7, *]),hk⟩
 refine ac' (fun h8=>?_) (fun h8=>?_)
 ·refine au' h8 ?_
  refine ldN [iV n.op,iV n.a,iV n.b] rfl (bZ hB) ?_;refine ab' (eS' n _) ?_;rintro e w2 ⟨rfl,hk2⟩;have hB:=hB.kp hk2 (by simp);refine br (fun he=>?_) (fun he=>?_)
  all_goals repeat' (first | refine ld (hB.cl rfl).cell ?_ | refine au' (by assumption) ?_ | refine cj' (by assumption) ?_ | refine ac' (fun _=>?_) (fun _=>?_))
  all_goals exact ⟨fin _ (by rw [<- hP]; first | (simp [ah',h8,he]; done) | (simp [ah',h8,he]; omega)),hk.tr hk2⟩
 refine ac' (fun h9=>?_) (fun h9=>?_)
 ·skip
  refine ldN [iV n.op,iV n.a,iV n.b] rfl (bZ hB) ?_;refine ab' (eS' n _) ?_;rintro e w2 ⟨rfl,hk2⟩;have hB:=hB.kp hk2 (by simp);refine br (fun he=>?_) (fun he=>?_)
  all_goals repeat' (first | refine ld (hB.cl rfl).cell ?_ | refine au' (by assumption) ?_ | refine cj' (by assumption) ?_ | refine ac' (fun _=>?_) (fun _=>?_))
  all_goals exact ⟨fin _ (by rw [<- hP]; first | (simp [ah',h9,he]; done) | (simp [ah',h9,he]; omega)),hk.tr hk2⟩
 refine ac' (fun h10=>?_) (fun h10=>?_)
 ·skip
  refine ldN [iV n.op,iV n.a,iV n.b] rfl (bZ hB) ?_;refine ab' (eS' n _) ?_;rintro e w2 ⟨rfl,hk2⟩;have hB:=hB.kp hk2 (by simp);refine br (fun he=>?_) (fun he=>?_)
  all_goals repeat' (first | refine ld (hB.cl rfl).cell ?_ | refine au' (by assumption) ?_ | refine cj' (by assumption) ?_ | refine ac' (fun _=>?_) (fun _=>?_))
  all_goals exact ⟨fin _ (by rw [<- hP]; first | (simp [ah',h10,he,(show inR n.b 0 15 = (decide (0 <= n.b) && decide (n.b <= 15)) from rfl), *]; done) | (simp [ah',h10,he,(show inR n.b 0 15 = (decide (0 <= n.b) && decide (n.b <= 15)) from rfl), *]; omega)),hk.tr hk2⟩
 refine ac' (fun h11=>?_) (fun h11=>?_)
 ·skip
  refine ldN [iV n.op,iV n.a,iV n.b] rfl (bZ hB) ?_;refine ab' (eS' n _) ?_;rintro e w2 ⟨rfl,hk2⟩;have hB:=hB.kp hk2 (by simp);refine br (fun he=>?_) (fun he=>?_)
  all_goals repeat' (first | refine ld (hB.cl rfl).cell ?_ | refine au' (by assumption) ?_ | refine cj' (by assumption) ?_ | refine ac' (fun _=>?_) (fun _=>?_))
  all_goals exact ⟨fin _ (by rw [<- hP]; first | (simp [ah',h11,he,(show inR n.b 0 16 = (decide (0 <= n.b) && decide (n.b <= 16)) from rfl), *]; done) | (simp [ah',h11,he,(show inR n.b 0 16 = (decide (0 <= n.b) && decide (n.b <= 16)) from rfl), *]; omega)),hk.tr hk2⟩
 refine ac' (fun h12=>?_) (fun h12=>?_)
 ·skip
  repeat' (first | refine ld (hB.cl rfl).cell ?_ | refine au' (by assumption) ?_ | refine cj' (by assumption) ?_ | refine ac' (fun _=>?_) (fun _=>?_))
  all_goals exact ⟨fin _ (by rw [<- hP]; first | (simp [ah',inR,h12, *]; done) | (simp [ah',inR,h12, *]; omega)),hk⟩
 refine ac' (fun h13=>?_) (fun h13=>?_)
 ·skip
  repeat' (first | refine ld (hB.cl rfl).cell ?_ | refine au' (by assumption) ?_ | refine cj' (by assumption) ?_ | refine ac' (fun _=>?_) (fun _=>?_))
  all_goals exact ⟨fin _ (by rw [<- hP]; first | (simp [ah',inR,h13, *]; done) | (simp [ah',inR,h13, *]; omega)),hk⟩
 ·exact ⟨fin _ (by rw [<- hP]; simp [ah',h1,h2,h3,h4,h5,h6,h7,h8,h9,h10,h11,h12,h13]),hk⟩
end Go.Proofs.YtpealcfjbcpoiaaGreat
