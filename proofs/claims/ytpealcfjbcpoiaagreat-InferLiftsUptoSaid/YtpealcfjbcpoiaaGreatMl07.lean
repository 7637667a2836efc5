import Derived.Test.YtpealcfjbcpoiaaGreatMl06
set_option linter.unusedVariables false
set_option linter.unusedSimpArgs false
set_option maxHeartbeats 4000000
namespace Tm
open Go Go.Wx Cd
def appN:Nd:=⟨6,0,0⟩
def aj':Tr -> List Tr -> Tr
 | x,[]=>x
 | x,y :: r=>aj' (.mk appN [x,y]) r
theorem bK':∀ (ys:List Tr) (x:Tr),row (aj' x ys) = List.replicate ys.length appN ++ (row x ++ rows ys)
 | [],x=>by simp [aj',rows]
 | y :: r,x=>by
  rw [aj',bK' r];simp only [row,rows,JV,JD];rw [List.replicate_succ'];simp [List.append_assoc]
theorem gn':∀ (ys:List Tr) (x:Tr),Ok .tm x -> (∀ y ∈ ys,Ok .tm y) -> Ok .tm (aj' x ys)
 | [],x,hx,_=>hx
 | y :: r,x,hx,hy=>by
  rw [aj'];refine gn' r _ ?_ (fun z hz=>hy z (by simp [hz]));have h1:=hy y (by simp);exact ⟨⟨show cnt .tm appN = some 2 by decide,hx.1,h1.1,trivial⟩,by simp [fZ',eo',appN,hx.2,h1.2]⟩
theorem mp' {D:Mem} {a:Option Addr} {ys:List Tr} (h:Sl (rSk rNd) D a (ys.map row)):∃ vs,Sl ez' D a vs /\ Pcs D vs ys:=by
 have hl:=h.1;rw [List.length_map] at hl;rcases h.2 with h0 | ⟨b,o,rfl,hc⟩
 ·have:ys = []:=by simpa using h0
  subst this;exact ⟨[],Sl.nil _ _ _,rfl,fun i v y hv=>by simp at hv⟩
 ·have hv:∀ i:Nat,∃ v,∀ y,ys[i]? = some y -> (∃ a c,v = .slice a (row y).length c /\ Sl rNd D a (row y) /\ (row y).length <= c) /\ D b (o + i * 1) v:=fun i=>by
   cases e:ys[i]? with
   | none=>exact ⟨.slice none 0 0,fun y hy=>by cases hy⟩
   | some y =>
    obtain ⟨cs,⟨a',c',rfl,h1,h2⟩,h3⟩:=hc i (row y) (by rw [JX,e]; rfl);refine ⟨.slice a' (row y).length c',fun z hz=>?_⟩;obtain rfl:=JB hz;exact ⟨⟨a',c',rfl,h2,h1⟩,h3 0 _ rfl⟩
  obtain ⟨f,hf⟩:=Classical.axiomOfChoice hv;have hget:∀ (i:Nat) (v:Value),((List.range ys.length).map f)[i]? = some v -> i < ys.length /\ v = f i:=fun i v hv=>by
   rw [JX] at hv;obtain ⟨j,hj,rfl⟩:=Option.map_eq_some_iff.1 hv;have hlt:=ai' hj;simp at hlt;rw [List.getElem?_range hlt] at hj;obtain rfl:=JB hj;exact ⟨hlt,rfl⟩
  refine ⟨(List.range ys.length).map f,⟨by simpa using hl,.inr ⟨b,o,rfl,fun i v hv=>?_⟩⟩,by simp,fun i v y hv hy=>?_⟩
  ·obtain ⟨hlt,rfl⟩:=hget i v hv
   obtain ⟨y,hy⟩:∃ y,ys[i]? = some y:=⟨ys[i],by simp⟩
   obtain ⟨⟨a',c',e,_⟩,h2⟩:=hf i y hy;refine ⟨[f i],⟨rfl,by rw [e]; rfl⟩,fun j u hj=>?_⟩
   match j with
   | 0 =>
    obtain rfl:=JB hj;exact h2
   | j + 1=>simp at hj
  ·obtain ⟨hlt,rfl⟩:=hget i v hv
   exact (hf i y hy).1
theorem go':∀ ys:List Tr,((ys.map row).map List.length).sum = (rows ys).length
 | []=>rfl
 | y :: r=>by
  have:=go' r;simp only [List.map_cons,List.sum_cons,rows,JK,this]
theorem eW':∀ ys:List Tr,(ys.map row).flatten = rows ys
 | []=>rfl
 | y :: r=>by rw [List.map_cons,List.flatten_cons,eW' r,rows]
end Tm
namespace Go.Proofs.YtpealcfjbcpoiaaGreat
open Go.Wx Cd Tm
theorem mk0 {α:Type} {R:Rd α} {T e bs:Nat} {z:List Value} (hs:Go.Wx.look τ.slcs T = some (e,R.sz,bs)) (hz:τ.zero e = some z) (hzl:z.length = R.sz) (hpos:0 < R.sz) {w:World} {k:Value -> World -> Prop} {i:Int} (n:Nat) (hi:i = n) (hn:bs * n <= 281474976710656) (h63:n <= maxLen)
  (hk:∀ b w',b = w.heap.size -> Own R e w.heap.size w' (.slice (some ⟨b,0,none⟩) 0 n) [] -> w'.heap.size = b + 1 -> Kp [] w w' -> k (.slice (some ⟨b,0,none⟩) 0 n) w'):EvRun Tryz.prog (Instr.makeSlice T (iV 0) (iV i)) w k:=by
 obtain ⟨hu,inf,hinf,hsize,hbytes⟩:=τok.slcs T e R.sz bs hs;obtain ⟨inf',v,hinf',hv,hc,hsz'⟩:=du' τok (T:=e) (z:=z) hz;have:inf' = inf:=by rw [hinf'] at hinf; simpa using hinf
 subst this;subst hi;have hb:(inf'.bytes:Int) * (n:Int) <= 281474976710656:=by
  rw [hbytes];have:((bs * n:Nat):Int) <= 281474976710656:=by omega
  rwa [Int.natCast_mul] at this
 have hr:=run_make (P:=Tryz.prog) w T e inf' v hu hinf' hv .i64 .i64 0 n (by omega) (by omega) hb (by unfold maxLen at h63; omega);simp only [Int.toNat_natCast,Int.toNat_zero] at hr;have hm:madeCells v.cells (n * inf'.size) = (rep z n).toArray:=by
  rw [hc,hsz'];exact gA' z n (by omega)
 rw [hm] at hr;have hrl:(rep z n).length = n * R.sz:=by
  rw [<- hzl]
  clear hr hm hb hn h63 hk
  induction n with
  | zero=>simp [rep]
  | succ n ih=>simp [rep,ih,Nat.succ_mul]; omega
 refine run hr (hk _ _ rfl ⟨⟨[],⟨by simp,.inr ⟨w.heap.size,n,(rep z n).toArray,rfl,KJ _,?_,KV _,h63,by simpa using hrl,by simp⟩⟩,trivial⟩,by simp⟩ (by simp) (Kp.alloc _ _));show (w.heap.push _)[_]? = _;simp
theorem oJ' {C:Mem} {w:World} (hS:Sub C w) (x:Tr) (ys:List Tr) (hx:Ok .tm x) (hys:∀ y ∈ ys,Ok .tm y /\ (row y).length <= 4096) (hn:ys.length <= 100000) (ta ua:Option Addr) (cap cap':Nat) (hsl:Sl rNd C ta (row x)) (hcap:(row x).length <= cap) (hlen:(row x).length <= 4096) (hsu:Sl (rSk rNd) C ua (ys.map row)) :
  CC 73 #[.slice ta (row x).length cap,.slice ua ys.length cap'] w (fun e w'=>(if 4096 < (row (aj' x ys)).length then e = .returned (.tuple #[.slice none 0 0,iV 9]) else ∃ v,e = .returned (.tuple #[v,iV 0]) /\ IsTm (aj' x ys) w w' v) /\ Kp [] w w'):=by
 refine oF Tryz.func73 ?_;obtain ⟨vs,hvs,hpc⟩:=mp' hsu;have hvl:=hpc.1;have hrl:(row (aj' x ys)).length = ys.length + ((row x).length + (rows ys).length):=by rw [bK']; simp
 rw [<- hvl] at hrl ⊢;refine cO (args:=[_,_]) 57 [.tmp 4,.tmp 5] τok Tryz.func73 ?_;have hsh:=aR' hS (row x) ta cap hsl;rw [bH' hx hlen] at hsh;refine ab' hsh ?_;rintro e w1 ⟨rfl,hk1⟩;refine lp τok (σ:=Nat × Nat) (fun q=>[(0,.slice ta (row x).length cap),(1,.slice ua vs.length cap'),(7,iV (min ((row x).length + q.1 + q.2:Nat) 4097:Int)),(19,.slice ua vs.length cap'),(20,iV (vs.length:Int)),(21,iV (q.1:Int))])
  (fun q w'=>q.1 <= vs.length /\ q.2 = (rows (ys.take q.1)).length /\ Kp [] w w') (fun q=>vs.length - q.1) (0,0) rfl
  ⟨rfl,rfl,by show some (iV ((row x).length:Int)) = some (iV _); congr 2; omega,rfl,rfl,rfl,trivial⟩ ⟨KV _,by simp [rows],hk1⟩ ?_
 rintro ⟨i,tot⟩ w2 ⟨hi,htot,hk2⟩;simp only at hi htot;refine ac' (fun g=>?_) (fun g=>?_)
 ·have g:(i:Int) < vs.length:=g
  have hlt:i < vs.length:=by omega
  obtain ⟨y,hy,_⟩:=af' (l:=ys) (k:=i) (by omega);obtain ⟨v,hv,_⟩:=af' (l:=vs) (k:=i) (by omega);obtain ⟨ay,cy,rfl,hsy,hcy⟩:=hpc.2 i v y hv hy;obtain ⟨b,o,rfl,hcell,_⟩:=hvs.val hv;obtain ⟨hyo,hyl⟩:=hys y (JQ hy);refine ix i rfl hlt ?_;refine ldC (hS.tr hk2) hcell ?_;have hsh:=aR' (hS.tr hk2) (row y) ay cy hsy;rw [bH' hyo hyl] at hsh;refine ab' hsh ?_;rintro e w3 ⟨rfl,hk3⟩;refine i6 ?_;refine i6 ?_;refine nj' ?_;refine i6 ?_;have e1:(rows (ys.take (i + 1))).length = (rows (ys.take i)).length + (row y).length:=by
   rw [al' hy,bz'];simp [rows]
  refine ⟨(i + 1,tot + (row y).length),by simp only; omega,rfl,⟨rfl,rfl,?_,rfl,rfl,rfl,trivial⟩,by show i + 1 <= vs.length; omega,(show tot + (row y).length = (rows (ys.take (i + 1))).length by omega),hk2.tr hk3⟩;show some (iV (min ((min ((row x).length + i + tot:Nat) 4097:Int) + 1 + ((row y).length:Int)) 4097)) = some (iV (min ((row x).length + (i + 1) + (tot + (row y).length):Nat) 4097:Int))
  congr 2
  omega
 ·have g:¬ (i:Int) < vs.length:=g
  have hie:i = vs.length:=by omega
  subst hie;rw [JG (by omega)] at htot;subst htot;refine ac' (fun g2=>?_) (fun g2=>?_)
  ·have g2:min (((row x).length + vs.length + (rows ys).length:Nat):Int) 4097 > 4096:=g2
   exact ⟨by rw [if_pos (by omega)]; rfl,hk2⟩
  have g2:¬ min (((row x).length + vs.length + (rows ys).length:Nat):Int) 4097 > 4096:=g2;obtain ⟨A,hA⟩:∃ A,A = (row x).length + vs.length + (rows ys).length:=⟨_,rfl⟩
  rw [<- hA,show min (A:Int) 4097 = (A:Int) by omega];refine mk0 (R:=rNd) rfl rfl rfl (by decide) A rfl (by omega) (by unfold maxLen; omega) fun bo w3 hbo hO3 hs3 hk3=>?_;have k03:=hk2.tr hk3;refine lp τok (σ:=Nat × Value) (fun q=>[(0,.slice ta (row x).length cap),(1,.slice ua vs.length cap'),(11,q.2),(42,iV (vs.length:Int)),(43,iV (q.1:Int))])
   (fun q w'=>q.1 <= vs.length /\ Own rNd 45 w2.heap.size w' q.2 (List.replicate q.1 appN) /\ Kp [] w w') (fun q=>vs.length - q.1) (0,.slice (some ⟨bo,0,none⟩) 0 A) rfl
   ⟨rfl,rfl,rfl,rfl,rfl,trivial⟩ ⟨KV _,hO3,k03⟩ ?_
  rintro ⟨j,vo⟩ w4 ⟨hj,hO4,hk4⟩;simp only at hj hO4;have hrj:(List.replicate j appN).length = j:=List.length_replicate;refine ac' (fun g3=>?_) (fun g3=>?_)
  ·have g3:(j:Int) < vs.length:=g3
   refine fill [iV 6,iV 0,iV 0] rfl ?_;refine new fun bx w5 hbx hX hs5 hk5=>?_;refine (hO4.kp hk5).ap1 τok rfl rfl (by decide) appN [iV 6,iV 0,iV 0] ⟨rfl,by simp [I64,appN],by simp [I64,appN],by simp [I64,appN]⟩ (fun i t hi=>by rw [KW]; exact hX.cl hi) (by omega) (by simp only [maxLen]; omega) fun v6 w6 hO6 hk6 _=>?_;refine i6 ?_;have k46:Kp [] w w6:=(hk4.tr hk5).trans hk6 fun x hx hlt=>by
    have:=(hO4.block x (by simpa using hx)).1;have:=hk2.size;omega
   exact ⟨(j + 1,v6),by simp only; omega,rfl,⟨rfl,rfl,rfl,rfl,rfl,trivial⟩,by show j + 1 <= vs.length; omega,by rw [List.replicate_succ']; exact hO6,k46⟩
  ·have g3:¬ (j:Int) < vs.length:=g3
   have hje:j = vs.length:=by omega
   subst hje;refine fill [.slice ta (row x).length cap] rfl ?_;refine new fun bf w5 hbf hF hs5 hk5=>?_;have k05:=hk4.tr hk5;have hOf:Own ez' 29 w4.heap.size w5 (.slice (some ⟨bf,0,none⟩) 1 1) [.slice ta (row x).length cap]:=⟨⟨[[.slice ta (row x).length cap]],jT' (n:=1) hF (by omega) rfl (by simp [maxLen]),⟨rfl,rfl⟩,trivial⟩,by omega⟩
   refine hOf.apF τok rfl rfl (by decide) bl' (hS.tr k05) vs hvs (by simp; omega) (by simp [maxLen]; omega) fun v6 w6 hO6 hk6 _=>?_;have k46:Kp [] w4 w6:=hk5.own hk6 hOf;have k06:=hk4.tr k46;obtain ⟨a6,c6,hv6,hc6⟩:=hO6.cap;obtain ⟨a7,c7,hv7,hs7⟩:=hO6.den (by simp; omega);rw [hv6] at hv7;injection hv7 with e1 e2 e3
   subst e1 e3 hv6;have hp6:Pcs (fun b o t=>C b o t \/ New w4.heap.size w6 b o t) (.slice ta (row x).length cap :: vs) (x :: ys):=⟨by simp [hvl],fun i v y hv hy=>by
    match i with
    | 0 =>
     simp only [List.getElem?_cons_zero,Option.some.injEq] at hv hy;subst hv hy;exact ⟨ta,cap,rfl,hsl.mono fun b o t h=>.inl h,hcap⟩
    | i + 1 =>
     simp only [List.getElem?_cons_succ] at hv hy;obtain ⟨a',c',q1,q2,q3⟩:=hpc.2 i v y hv hy;exact ⟨a',c',q1,q2.mono fun b o t h=>.inl h,q3⟩⟩
   have hsl6:=(Pcs.sl hp6 (hs7.mono fun b o t h=>.inr h)).of_sk;have hS6:Sub (fun b o t=>C b o t \/ New w4.heap.size w6 b o t) w6:=fun b o t h=>h.elim (fun h=>hS.tr k06 _ _ _ h) fun h=>New.sub _ _ _ _ _ h;have hpx:=ag' x;have hcc:=fz' hS6 ((x :: ys).map row) a6 c6 hsl6 (by simp; omega) (by rw [go']; simp [rows]; omega) (by rw [go']; simp [rows]; omega);rw [eW'] at hcc;rw [show ((x :: ys).map row).length = ([Value.slice ta (row x).length cap] ++ vs).length by simp [hvl]] at hcc;refine ab' hcc ?_;rintro e w7 ⟨v7,rfl,hO7,hk7⟩;have hrr:(rows (x :: ys)).length = (row x).length + (rows ys).length:=by simp [rows]
   obtain ⟨a8,c8,rfl,hs8⟩:=hO7.den (by omega);have k47:=k46.tr hk7;refine (hO4.kp k47).apF τok rfl rfl (by decide) cy' (New.sub _ _) (rows (x :: ys)) hs8 (by omega) (by simp only [maxLen]; omega) fun v9 w9 hO9 hk9 _=>?_;have k09:Kp [] w w9:=(hk4.tr k47).trans hk9 fun x hx hlt=>by
    have:=(hO4.block x (by simpa using hx)).1;have:=hk2.size;omega
   have hre:List.replicate vs.length appN ++ rows (x :: ys) = row (aj' x ys):=by rw [bK',rows,hvl]
   rw [hre] at hO9;exact ⟨by rw [if_neg (by omega)]; exact ⟨v9,rfl,Own.isTm (hO9.low' hk2.size) (by omega)⟩,k09⟩
end Go.Proofs.YtpealcfjbcpoiaaGreat
namespace Tm
open Go Go.Wx Cd
def bW' (op:Int):List Tr -> Tr -> Tr
 | [],x=>x
 | d :: r,x=>.mk ⟨op,0,0⟩ [d,bW' op r x]
def dL' (op:Int) (ys:List Tr):List Nd:=ys.flatMap fun d=>⟨op,0,0⟩ :: row d
theorem mq' (op:Int):∀ (ys:List Tr) (x:Tr),row (bW' op ys x) = dL' op ys ++ row x
 | [],x=>by simp [bW',dL']
 | d :: r,x=>by
  simp only [bW',row,rows,dL',List.flatMap_cons,JD];rw [mq' op r x];simp [dL']
theorem ja' {op:Int} (ho:op = 4 \/ op = 5):∀ (ys:List Tr) (x:Tr),Ok .tm x -> (∀ y ∈ ys,Ok .tm y) -> Ok .tm (bW' op ys x)
 | [],x,hx,_=>hx
 | d :: r,x,hx,hy=>by
  have h1:=hy d (by simp);have h2:=ja' ho r x hx (fun z hz=>hy z (by simp [hz]));rw [bW'];have hc:cnt .tm ⟨op,0,0⟩ = some 2:=by rcases ho with rfl | rfl <;> decide
  have hn:∀ k,nx .tm ⟨op,0,0⟩ k = .tm:=fun k=>by rcases ho with rfl | rfl <;> rfl
  refine ⟨⟨hc,by rw [hn]; exact h1.1,by rw [hn]; exact h2.1,trivial⟩,?_⟩;have:op ≠ 2:=by omega
  simp [fZ',eo',h1.2,h2.2,this]
theorem ke' (op:Int) (ys:List Tr) (d:Tr):dL' op (ys ++ [d]) = dL' op ys ++ (⟨op,0,0⟩ :: row d):=by simp [dL']
theorem kf' (op:Int) (ys:List Tr) (i:Nat):(dL' op (ys.take i)).length <= (dL' op ys).length:=by
 have:dL' op ys = dL' op (ys.take i) ++ dL' op (ys.drop i):=by
  unfold dL';rw [<- List.flatMap_append,List.take_append_drop]
 rw [this,JK];omega
end Tm
namespace Go.Proofs.YtpealcfjbcpoiaaGreat
open Go.Wx Cd Tm
theorem oK' {C:Mem} {w:World} (hS:Sub C w) (op:Int) (ho:op = 4 \/ op = 5) (ys:List Tr) (l:List Nd) (hys:∀ y ∈ ys,Ok .tm y /\ (row y).length <= 4096) (hn:ys.length <= 100000) (ta ua:Option Addr) (cap cap':Nat) (hsl:Sl rNd C ta l) (hlen:l.length <= 4096) (hsu:Sl (rSk rNd) C ua (ys.map row)) :
  CC 60 #[iV op,.slice ua ys.length cap',.slice ta l.length cap] w (fun e w'=>(if bC' l ≠ 0 then e = .returned (.tuple #[.slice none 0 0,iV (bC' l)]) else if 4096 < (dL' op ys ++ l).length then e = .returned (.tuple #[.slice none 0 0,iV 9]) else ∃ v,e = .returned (.tuple #[v,iV 0]) /\ Own rNd 45 w.heap.size w' v (dL' op ys ++ l)) /\ Kp [] w w'):=by
 refine oF Tryz.func60 ?_;obtain ⟨vs,hvs,hpc⟩:=mp' hsu;have hvl:=hpc.1;have hiop:I64 op:=by unfold I64; omega
 refine cO (args:=[_,_,_]) 68 [.tmp 6,.tmp 7] τok Tryz.func60 ?_;refine ac' (fun g0=>?_) (fun g0=>?_)
 ·have g0:op ≠ 4:=g0
  refine cj' (p:=op ≠ 5) (by omega) ?_;refine lp τok (σ:=Nat × Bool × Value) (fun q=>[(0,iV op),(1,.slice ua ys.length cap'),(2,.slice ta l.length cap),(8,q.2.2),(9,.bool q.2.1),(20,.slice ua ys.length cap'),(21,iV (ys.length:Int)),(22,iV (q.1:Int))])
   (fun q w'=>q.1 <= ys.length /\ Kp [] w w' /\ (q.2.1 = true -> 4096 < (dL' op ys).length) /\ (q.2.1 = false -> (dL' op (ys.take q.1)).length <= 4096 /\ Own rNd 45 w.heap.size w' q.2.2 (dL' op (ys.take q.1)))) (fun q=>ys.length - q.1) (0,false,.slice none 0 0) rfl
   ⟨rfl,rfl,rfl,rfl,rfl,rfl,rfl,rfl,trivial⟩ ⟨KV _,Kp.refl _ _,(fun h=>by cases h),fun _=>⟨by simp [dL'],Own.nil _ _ (KJ _)⟩⟩ ?_
  rintro ⟨i,bg,vo⟩ w2 ⟨hi,hk2,hbt,hbf⟩;simp only at hi hbt hbf;refine ac' (fun g=>?_) (fun g=>?_)
  ·have g:(i:Int) < ys.length:=g
   have hlt:i < ys.length:=by omega
   obtain ⟨y,hy,_⟩:=af' (l:=ys) (k:=i) (by omega);obtain ⟨v,hv,_⟩:=af' (l:=vs) (k:=i) (by omega);obtain ⟨ay,cy,rfl,hsy,hcy⟩:=hpc.2 i v y hv hy;obtain ⟨b,o,rfl,hcell,_⟩:=hvs.val hv;obtain ⟨hyo,hyl⟩:=hys y (JQ hy);refine ix i rfl hlt ?_;refine ldC (hS.tr hk2) hcell ?_;have hsh:=aR' (hS.tr hk2) (row y) ay cy hsy;rw [bH' hyo hyl] at hsh;refine ab' hsh ?_;rintro e w3 ⟨rfl,hk3⟩;have k03:=hk2.tr hk3;have e1:dL' op (ys.take (i + 1)) = dL' op (ys.take i) ++ (⟨op,0,0⟩ :: row y):=by rw [al' hy,ke']
   have hpt:=kf' op ys (i + 1);rw [e1,JK,JV] at hpt;cases bg with
   | true =>
    have hbt:=hbt rfl;refine i6 ?_;exact ⟨(i + 1,true,vo),by simp only; omega,rfl,⟨rfl,rfl,rfl,rfl,rfl,rfl,rfl,rfl,trivial⟩,by show i + 1 <= ys.length; omega,k03,fun _=>hbt,(fun h=>by cases h)⟩
   | false =>
    obtain ⟨hpl,hO⟩:=hbf rfl;obtain ⟨a0,c0,rfl,_⟩:=hO.cap;obtain ⟨LP,hLP⟩:∃ LP,LP = (dL' op (ys.take i)).length:=⟨_,rfl⟩
    refine jK' ((LP + 1:Nat):Int) (by omega) (by omega) (by simp [hLP]) ?_;refine jK' ((LP + 1 + (row y).length:Nat):Int) (by omega) (by omega) (by simp) ?_;refine iO' (fun g2=>?_) (fun g2=>?_)
    ·have g2:((LP + 1 + (row y).length:Nat):Int) > 4096:=g2
     refine i6 ?_;exact ⟨(i + 1,true,.slice a0 (dL' op (ys.take i)).length c0),by simp only; omega,rfl,⟨rfl,rfl,rfl,rfl,(show some (Value.bool (decide (((LP + 1 + (row y).length:Nat):Int) > 4096))) = some (.bool true) by rw [decide_eq_true g2]),rfl,rfl,rfl,trivial⟩,by show i + 1 <= ys.length; omega,k03,fun _=>by omega,(fun h=>by cases h)⟩
    ·have g2:¬ ((LP + 1 + (row y).length:Nat):Int) > 4096:=g2
     refine fill [iV op,iV 0,iV 0] rfl ?_;refine new fun bx w4 hbx hX hs4 hk4=>?_;have hO3:=(hO.kp hk3).kp hk4;refine hO3.ap1 τok rfl rfl (by decide) ⟨op,0,0⟩ [iV op,iV 0,iV 0] ⟨rfl,hiop,by simp [I64],by simp [I64]⟩ (fun i t hi=>by rw [KW]; exact hX.cl hi) (by omega) (by simp only [maxLen]; omega) fun v5 w5 hO5 hk5 _=>?_;have k05:Kp [] w w5:=(k03.tr hk4).own hk5 hO3;obtain ⟨a5,c5,rfl,_⟩:=hO5.cap;refine hO5.apF τok rfl rfl (by decide) cy' (hS.tr k05) (row y) hsy (by rw [JK]; simp only [JV,JU]; omega) (by rw [JK]; simp only [JV,JU,maxLen]; omega) fun v6 w6 hO6 hk6 _=>?_;refine i6 ?_;have hO6:Own rNd 45 w.heap.size w6 v6 (dL' op (ys.take (i + 1))):=by
      rw [e1]
      simpa using hO6
     exact ⟨(i + 1,false,v6),by simp only; omega,rfl,⟨rfl,rfl,rfl,rfl,(show some (Value.bool (decide (((LP + 1 + (row y).length:Nat):Int) > 4096))) = some (.bool false) by rw [decide_eq_false g2]),rfl,rfl,rfl,trivial⟩,by show i + 1 <= ys.length; omega,k05.own hk6 hO5,(fun h=>by cases h),fun _=>⟨by rw [e1,JK,JV]; omega,hO6⟩⟩
  ·have g:¬ (i:Int) < ys.length:=g
   rw [JG (by omega)] at hbf;refine ab' (aR' (hS.tr hk2) l ta cap hsl) ?_;rintro e w3 ⟨rfl,hk3⟩;have k03:=hk2.tr hk3;refine ac' (fun g3=>?_) (fun g3=>?_)
   ·have g3:bC' l ≠ 0:=g3
    exact ⟨by rw [if_pos g3]; rfl,k03⟩
   have g3:¬ bC' l ≠ 0:=g3;cases bg with
   | true =>
    have hbt:=hbt rfl;exact ⟨by rw [if_neg g3,if_pos (by rw [JK]; omega)]; rfl,k03⟩
   | false =>
    obtain ⟨hpl,hO⟩:=hbf rfl;obtain ⟨a0,c0,rfl,_⟩:=hO.cap;refine i6 ?_;refine ac' (fun g2=>?_) (fun g2=>?_)
    ·have g2:((dL' op ys).length:Int) + (l.length:Int) > 4096:=g2
     exact ⟨by rw [if_neg g3,if_pos (by rw [JK]; omega)]; rfl,k03⟩
    ·have g2:¬ ((dL' op ys).length:Int) + (l.length:Int) > 4096:=g2
     refine (hO.kp hk3).apF τok rfl rfl (by decide) cy' (hS.tr k03) l hsl (by omega) (by simp only [maxLen]; omega) fun v6 w6 hO6 hk6 _=>?_;exact ⟨by rw [if_neg g3,if_neg (by rw [JK]; omega)]; exact ⟨v6,rfl,hO6⟩,k03.own hk6 (hO.kp hk3)⟩
 ·have g0:op = 4:=by simpa using g0
  refine lp τok (σ:=Nat × Bool × Value) (fun q=>[(0,iV op),(1,.slice ua ys.length cap'),(2,.slice ta l.length cap),(8,q.2.2),(9,.bool q.2.1),(20,.slice ua ys.length cap'),(21,iV (ys.length:Int)),(22,iV (q.1:Int))])
   (fun q w'=>q.1 <= ys.length /\ Kp [] w w' /\ (q.2.1 = true -> 4096 < (dL' op ys).length) /\ (q.2.1 = false -> (dL' op (ys.take q.1)).length <= 4096 /\ Own rNd 45 w.heap.size w' q.2.2 (dL' op (ys.take q.1)))) (fun q=>ys.length - q.1) (0,false,.slice none 0 0) rfl
   ⟨rfl,rfl,rfl,rfl,rfl,rfl,rfl,rfl,trivial⟩ ⟨KV _,Kp.refl _ _,(fun h=>by cases h),fun _=>⟨by simp [dL'],Own.nil _ _ (KJ _)⟩⟩ ?_
  rintro ⟨i,bg,vo⟩ w2 ⟨hi,hk2,hbt,hbf⟩;simp only at hi hbt hbf;refine ac' (fun g=>?_) (fun g=>?_)
  ·have g:(i:Int) < ys.length:=g
   have hlt:i < ys.length:=by omega
   obtain ⟨y,hy,_⟩:=af' (l:=ys) (k:=i) (by omega);obtain ⟨v,hv,_⟩:=af' (l:=vs) (k:=i) (by omega);obtain ⟨ay,cy,rfl,hsy,hcy⟩:=hpc.2 i v y hv hy;obtain ⟨b,o,rfl,hcell,_⟩:=hvs.val hv;obtain ⟨hyo,hyl⟩:=hys y (JQ hy);refine ix i rfl hlt ?_;refine ldC (hS.tr hk2) hcell ?_;have hsh:=aR' (hS.tr hk2) (row y) ay cy hsy;rw [bH' hyo hyl] at hsh;refine ab' hsh ?_;rintro e w3 ⟨rfl,hk3⟩;have k03:=hk2.tr hk3;have e1:dL' op (ys.take (i + 1)) = dL' op (ys.take i) ++ (⟨op,0,0⟩ :: row y):=by rw [al' hy,ke']
   have hpt:=kf' op ys (i + 1);rw [e1,JK,JV] at hpt;cases bg with
   | true =>
    have hbt:=hbt rfl;refine i6 ?_;exact ⟨(i + 1,true,vo),by simp only; omega,rfl,⟨rfl,rfl,rfl,rfl,rfl,rfl,rfl,rfl,trivial⟩,by show i + 1 <= ys.length; omega,k03,fun _=>hbt,(fun h=>by cases h)⟩
   | false =>
    obtain ⟨hpl,hO⟩:=hbf rfl;obtain ⟨a0,c0,rfl,_⟩:=hO.cap;obtain ⟨LP,hLP⟩:∃ LP,LP = (dL' op (ys.take i)).length:=⟨_,rfl⟩
    refine jK' ((LP + 1:Nat):Int) (by omega) (by omega) (by simp [hLP]) ?_;refine jK' ((LP + 1 + (row y).length:Nat):Int) (by omega) (by omega) (by simp) ?_;refine iO' (fun g2=>?_) (fun g2=>?_)
    ·have g2:((LP + 1 + (row y).length:Nat):Int) > 4096:=g2
     refine i6 ?_;exact ⟨(i + 1,true,.slice a0 (dL' op (ys.take i)).length c0),by simp only; omega,rfl,⟨rfl,rfl,rfl,rfl,(show some (Value.bool (decide (((LP + 1 + (row y).length:Nat):Int) > 4096))) = some (.bool true) by rw [decide_eq_true g2]),rfl,rfl,rfl,trivial⟩,by show i + 1 <= ys.length; omega,k03,fun _=>by omega,(fun h=>by cases h)⟩
    ·have g2:¬ ((LP + 1 + (row y).length:Nat):Int) > 4096:=g2
     refine fill [iV op,iV 0,iV 0] rfl ?_;refine new fun bx w4 hbx hX hs4 hk4=>?_;have hO3:=(hO.kp hk3).kp hk4;refine hO3.ap1 τok rfl rfl (by decide) ⟨op,0,0⟩ [iV op,iV 0,iV 0] ⟨rfl,hiop,by simp [I64],by simp [I64]⟩ (fun i t hi=>by rw [KW]; exact hX.cl hi) (by omega) (by simp only [maxLen]; omega) fun v5 w5 hO5 hk5 _=>?_;have k05:Kp [] w w5:=(k03.tr hk4).own hk5 hO3;obtain ⟨a5,c5,rfl,_⟩:=hO5.cap;refine hO5.apF τok rfl rfl (by decide) cy' (hS.tr k05) (row y) hsy (by rw [JK]; simp only [JV,JU]; omega) (by rw [JK]; simp only [JV,JU,maxLen]; omega) fun v6 w6 hO6 hk6 _=>?_;refine i6 ?_;have hO6:Own rNd 45 w.heap.size w6 v6 (dL' op (ys.take (i + 1))):=by
      rw [e1]
      simpa using hO6
     exact ⟨(i + 1,false,v6),by simp only; omega,rfl,⟨rfl,rfl,rfl,rfl,(show some (Value.bool (decide (((LP + 1 + (row y).length:Nat):Int) > 4096))) = some (.bool false) by rw [decide_eq_false g2]),rfl,rfl,rfl,trivial⟩,by show i + 1 <= ys.length; omega,k05.own hk6 hO5,(fun h=>by cases h),fun _=>⟨by rw [e1,JK,JV]; omega,hO6⟩⟩
  ·have g:¬ (i:Int) < ys.length:=g
   rw [JG (by omega)] at hbf;refine ab' (aR' (hS.tr hk2) l ta cap hsl) ?_;rintro e w3 ⟨rfl,hk3⟩;have k03:=hk2.tr hk3;refine ac' (fun g3=>?_) (fun g3=>?_)
   ·have g3:bC' l ≠ 0:=g3
    exact ⟨by rw [if_pos g3]; rfl,k03⟩
   have g3:¬ bC' l ≠ 0:=g3;cases bg with
   | true =>
    have hbt:=hbt rfl;exact ⟨by rw [if_neg g3,if_pos (by rw [JK]; omega)]; rfl,k03⟩
   | false =>
    obtain ⟨hpl,hO⟩:=hbf rfl;obtain ⟨a0,c0,rfl,_⟩:=hO.cap;refine i6 ?_;refine ac' (fun g2=>?_) (fun g2=>?_)
    ·have g2:((dL' op ys).length:Int) + (l.length:Int) > 4096:=g2
     exact ⟨by rw [if_neg g3,if_pos (by rw [JK]; omega)]; rfl,k03⟩
    ·have g2:¬ ((dL' op ys).length:Int) + (l.length:Int) > 4096:=g2
     refine (hO.kp hk3).apF τok rfl rfl (by decide) cy' (hS.tr k03) l hsl (by omega) (by simp only [maxLen]; omega) fun v6 w6 hO6 hk6 _=>?_;exact ⟨by rw [if_neg g3,if_neg (by rw [JK]; omega)]; exact ⟨v6,rfl,hO6⟩,k03.own hk6 (hO.kp hk3)⟩
theorem qR' {C:Mem} {w:World} (hS:Sub C w) (op:Int) (ho:op = 4 \/ op = 5) (ys:List Tr) (x:Tr) (hx:Ok .tm x) (hys:∀ y ∈ ys,Ok .tm y /\ (row y).length <= 4096) (hn:ys.length <= 100000) (ta ua:Option Addr) (cap cap':Nat) (hsl:Sl rNd C ta (row x)) (hlen:(row x).length <= 4096) (hsu:Sl (rSk rNd) C ua (ys.map row)) :
  CC 60 #[iV op,.slice ua ys.length cap',.slice ta (row x).length cap] w (fun e w'=>(if 4096 < (row (bW' op ys x)).length then e = .returned (.tuple #[.slice none 0 0,iV 9]) else ∃ v,e = .returned (.tuple #[v,iV 0]) /\ IsTm (bW' op ys x) w w' v) /\ Kp [] w w'):=by
 obtain ⟨q1,q2⟩:=oK' hS op ho ys (row x) hys hn ta ua cap cap' hsl hlen hsu;refine ⟨q1,q2.mono fun e w' ⟨h,k⟩=>⟨?_,k⟩⟩;rw [if_neg (by rw [bH' hx hlen]; decide),<- mq'] at h;split at h
 ·rename_i g; rw [if_pos g]; exact h
 ·rename_i g
  rw [if_neg g];obtain ⟨v,rfl,hO⟩:=h;exact ⟨v,rfl,Own.isTm hO (by omega)⟩
end Go.Proofs.YtpealcfjbcpoiaaGreat
namespace Tm
open Go Go.Wx Cd
def BlD (x:Tr) (d nb n:Int):Prop:=∀ q ∈ varsT x d nb,q.1 - q.2 < n
mutual
theorem oL' (e:Int):∀ (x:Tr) (d nb:Int),varsT x (d + e) nb = (varsT x d nb).map fun q=>(q.1,q.2 + e)
 | .mk n ks,d,nb=>by
  simp only [varsT];split
  ·rfl
  ·exact mr' e ks n nb 0 d
theorem mr' (e:Int):∀ (ks:List Tr) (n:Nd) (nb k d:Int),varsK ks n nb k (d + e) = (varsK ks n nb k d).map fun q=>(q.1,q.2 + e)
 | [],n,nb,k,d=>rfl
 | x :: r,n,nb,k,d=>by
  simp only [varsK,List.map_append];rw [<- oL' e x (d + arC n nb k) n.b,<- mr' e r n nb (k + 1) d,show d + e + arC n nb k = d + arC n nb k + e by omega]
end
theorem BlD.sh {x:Tr} {d nb n:Int} (e:Int):BlD x (d + e) nb n ↔ BlD x d nb (n + e):=by
 unfold BlD;rw [oL'];constructor
 ·intro h q hq
  have:=h (q.1,q.2 + e) (List.mem_map_of_mem hq);simp only at this;omega
 ·intro h q hq
  obtain ⟨p,hp,rfl⟩:=List.mem_map.1 hq;have:=h p hp;simp only;omega
theorem BlD.z {x:Tr} {d nb n:Int}:BlD x d nb n ↔ BlD x 0 nb (n + d):=by
 rw [<- BlD.sh];simp
theorem tk' {x:Tr} (h:x.n.op ≠ 13) (d nb nb':Int):varsT x d nb = varsT x d nb':=by
 obtain ⟨m,l⟩:=x;simp only [Tr.n] at h;simp only [varsT];have:∀ (l:List Tr) (k d nb nb':Int),varsK l m nb k d = varsK l m nb' k d:=by
  intro l
  induction l with
  | nil=>intros; rfl
  | cons y l ih =>
   intro k d nb nb';simp only [varsK,eR' h,ih (k + 1) d nb nb']
 rw [this l 0 d nb nb']
theorem Ok.n13 {x:Tr} (h:Ok .tm x):x.n.op ≠ 13:=by
 obtain ⟨n,ks⟩:=x;exact h.tm.2.2
def Bl (x:Tr) (n:Int):Prop:=BlD x 0 0 n
theorem Bl.mono {x:Tr} {n m:Int} (h:Bl x n) (hm:n <= m):Bl x m:=fun q hq=>by have:=h q hq; omega
theorem Ok.bld {x:Tr} (h:Ok .tm x) {d nb n:Int}:BlD x d nb n ↔ Bl x (n + d):=by
 rw [BlD.z];unfold Bl BlD;rw [tk' h.n13 0 nb 0]
def Al (Q:Nd -> Prop) (x:Tr):Prop:=∀ m ∈ row x,Q m
def Als (Q:Nd -> Prop) (l:List Tr):Prop:=∀ m ∈ rows l,Q m
theorem ib' {Q:Nd -> Prop} {n:Nd} {ks:List Tr}:Al Q (.mk n ks) ↔ Q n /\ Als Q ks:=by simp [Al,Als,row]
theorem cU' {Q:Nd -> Prop} {x:Tr} {r:List Tr}:Als Q (x :: r) ↔ Al Q x /\ Als Q r:=by
 unfold Als Al;simp only [rows,JW];exact ⟨fun h=>⟨fun m hm=>h m (.inl hm),fun m hm=>h m (.inr hm)⟩,fun h m hm=>hm.elim (h.1 m) (h.2 m)⟩
theorem lr' {Q:Nd -> Prop}:∀ {l:List Tr} {x:Tr},Als Q l -> x ∈ l -> Al Q x
 | y :: r,x,h,hx=>by
  rw [cU'] at h;rcases List.mem_cons.1 hx with rfl | hx
  ·exact h.1
  ·exact lr' h.2 hx
theorem Al.mono {Q R:Nd -> Prop} {x:Tr} (h:Al Q x) (hq:∀ m,Q m -> R m):Al R x:=fun m hm=>hq m (h m hm)
section
variable {h:Int -> Nd -> Option Tr} {Q:Nd -> Prop}
mutual
theorem tl':∀ (x:Tr) (d nb:Int) (y:Tr),(∀ m ∈ row x,m.op = 1 -> ∀ d z,h d m = some z -> Al Q z) -> Al Q x -> gT h x d nb = some y -> Al Q y
 | .mk n ks,d,nb,y,hh,hx,e=>by
  simp only [gT] at e;split at e
  ·rename_i h1
   exact hh n (by simp [row]) h1 d y e
  ·split at e
   ·cases e
   ·rename_i ks' hk
    obtain rfl:=JB e;rw [ib'] at hx ⊢;exact ⟨hx.1,uQ' ks n nb 0 d ks' (fun m hm=>hh m (by simp [row,hm])) hx.2 hk⟩
theorem uQ':∀ (ks:List Tr) (n:Nd) (nb k d:Int) (ks':List Tr),(∀ m ∈ rows ks,m.op = 1 -> ∀ d z,h d m = some z -> Al Q z) -> Als Q ks -> gK h ks n nb k d = some ks' -> Als Q ks'
 | [],n,nb,k,d,ks',hh,hx,e=>by
  simp only [gK,Option.some.injEq] at e;subst e;exact hx
 | x :: r,n,nb,k,d,ks',hh,hx,e=>by
  simp only [gK] at e;split at e
  ·cases e
  rename_i y hy;split at e
  ·cases e
  rename_i r' hr;obtain rfl:=JB e;rw [cU'] at hx ⊢;exact ⟨tl' x _ _ y (fun m hm=>hh m (by simp [rows,hm])) hx.1 hy,uQ' r n nb (k + 1) d r' (fun m hm=>hh m (by simp [rows,hm])) hx.2 hr⟩
end
mutual
theorem tm' {M:Int} (hok:∀ d n y,h d n = some y -> n.op = 1 -> ah' n = true -> Ok .tm y):∀ (x:Tr) (s:Md) (d nb:Int) (y:Tr),okT cnt nx x s -> (∀ q ∈ varsT x d nb,∀ m:Nd,m.op = 1 -> ah' m = true -> m.a = q.1 -> ∀ z,h q.2 m = some z -> Bl z (M + q.2)) -> gT h x d nb = some y -> BlD y d nb M
 | .mk n ks,s,d,nb,y,hx,hh,e=>by
  obtain ⟨hc,hk⟩:=hx;simp only [gT] at e;split at e
  ·rename_i h1
   have hp:ah' n = true:=by
    cases s with
    | tm=>exact (bG' hc).1
    | fn=>exact (fO' hc).1
    | am =>
     simp only [cnt] at hc;split at hc
     ·rename_i q
      exact q.2
     ·cases hc
   rw [(hok d n y e h1 hp).bld];exact hh (n.a,d) (by simp [varsT,h1]) n h1 hp rfl y e
  ·rename_i h1
   split at e
   ·cases e
   ·rename_i ks' hk'
    obtain rfl:=JB e;have:=uR' hok ks n s nb 0 d 0 ks' hk (fun q hq=>hh q (by simpa [varsT,h1] using hq)) hk';intro q hq;rw [varsT,if_neg h1] at hq;exact this q hq
theorem uR' {M:Int} (hok:∀ d n y,h d n = some y -> n.op = 1 -> ah' n = true -> Ok .tm y):∀ (ks:List Tr) (n:Nd) (s:Md) (nb k d:Int) (j:Nat) (ks':List Tr),okL cnt nx ks n s j -> (∀ q ∈ varsK ks n nb k d,∀ m:Nd,m.op = 1 -> ah' m = true -> m.a = q.1 -> ∀ z,h q.2 m = some z -> Bl z (M + q.2)) -> gK h ks n nb k d = some ks' -> ∀ q ∈ varsK ks' n nb k d,q.1 - q.2 < M
 | [],n,s,nb,k,d,j,ks',hx,hh,e=>by
  simp only [gK,Option.some.injEq] at e;subst e;intro q hq;simp [varsK] at hq
 | x :: r,n,s,nb,k,d,j,ks',hx,hh,e=>by
  obtain ⟨hx,hr⟩:=hx;simp only [gK] at e;split at e
  ·cases e
  rename_i y hy;split at e
  ·cases e
  rename_i r' hr';obtain rfl:=JB e;have h1:=tm' hok x (nx s n j) _ _ y hx (fun q hq=>hh q (by simp [varsK,hq])) hy;have h2:=uR' hok r n s nb (k + 1) d (j + 1) r' hr (fun q hq=>hh q (by simp [varsK,hq])) hr';intro q hq;simp only [varsK,JW] at hq;exact hq.elim (h1 q) (h2 q)
end
end
theorem ms' {x:Tr} (hx:Ok .tm x) (hs:dl' x) {b n:Int} (h0:0 <= b) (hb:b <= 500000) (h:Bl x n):Bl (aq' x b 0) (n + b):=by
 have:=tm' (h:=cH' b 0) (M:=n + b) (fun d m y e h1 hp=>mj' h0 hp h1 e) x .tm 0 0 _ hx.1 (fun q hq m h1 hp hm z e=>by
  have hq:=h q hq;simp only [cH'] at e;split at e
  ·split at e
   ·cases e
   ·obtain rfl:=JB e
    intro p hp;simp only [varsT,h1,if_true,JJ,JZ,or_false] at hp;subst hp;simp only;omega
  ·obtain rfl:=JB e
   intro p hp;simp only [varsT,h1,if_true,JJ,JZ,or_false] at hp;subst hp;simp only;omega) (bj' hx hs hb)
 exact this
theorem jb' {Q:Nd -> Prop} (hQ:∀ m:Nd,m.op = 1 -> Q m) {x:Tr} (hx:Ok .tm x) (hs:dl' x) {b f:Int} (hb:b <= 500000) (h:Al Q x):Al Q (aq' x b f) :=
 tl' x 0 0 _ (fun m hm h1 d z e=>by
  simp only [cH'] at e;intro k hk;split at e
  ·split at e
   ·cases e
   ·obtain rfl:=JB e
    simp only [row,rows,JJ,JZ,or_false] at hk;subst hk;exact hQ _ h1
  ·obtain rfl:=JB e
   simp only [row,rows,JJ,JZ,or_false] at hk;subst hk;exact hQ _ h1) h (bj' hx hs hb)
theorem qS' {Q:Nd -> Prop} (hQ:∀ m:Nd,m.op = 1 -> Q m) {x:Tr} (hx:Ok .tm x) (hs:dl' x) (b:Int) (h:Al Q x):Al Q (ep' x b):=by
 unfold ep';split
 ·rename_i g
  exact jb' hQ hx hs g.2 h
 ·exact h
theorem oM' {Q:Nd -> Prop} (hQ:∀ m:Nd,m.op = 1 -> Q m) {x u:Tr} (hx:Ok .tm x) (hu:Ok .tm u) (hs:dl' u) {v:Int} (h:Al Q x) (h':Al Q u):Al Q (bf' x u v) :=
 tl' x 0 0 _ (fun m hm h1 d z e=>by
  simp only [aY'] at e;split at e
  ·obtain rfl:=JB e
   exact qS' hQ hu hs _ h'
  ·intro k hk
   split at e
   ·obtain rfl:=JB e
    simp only [row,rows,JJ,JZ,or_false] at hk;subst hk;exact hQ _ h1
   ·obtain rfl:=JB e
    simp only [row,rows,JJ,JZ,or_false] at hk;subst hk;exact hQ _ h1) h (bB' hx v)
theorem oN' {x u:Tr} (hx:Ok .tm x) (hu:Ok .tm u) (hs:dl' u) (hl:(row x).length <= 4096) {v n:Int} (h0:0 <= v) (hv:v <= 300000) (hn:0 <= n) (h:Bl x (n + 1 + v)) (h':Bl u n):Bl (bf' x u v) (n + v):=by
 have hvd:=gJ' x .tm 0 0 hx.1 (by omega) (by omega) (by omega);have:=tm' (M:=n + v) (h:=aY' u v) (fun d m y e h1 hp=>by
   have hn':inR m.a 0 1048576 = true /\ m.b = 0:=by simpa [ah',h1] using hp
   have ha:=aF'.1 hn'.1;simp only [aY'] at e;split at e
   ·obtain rfl:=JB e
    exact iZ' hu hs _
   ·split at e
    ·obtain rfl:=JB e
     exact il' (by simpa using h1) (by simp only; omega) (by simp only; omega) hn'.2
    ·obtain rfl:=JB e
     exact il' h1 ha.1 ha.2 hn'.2) x .tm 0 0 _ hx.1 (fun q hq m h1 hp hm z e=>by
  have hq':=h q hq;have hd:=hvd q hq;simp only [aY'] at e;split at e
  ·obtain rfl:=JB e
   unfold ep';rw [if_pos (by omega)];have:=ms' hu hs (b:=v + q.2) (by omega) (by omega) h';exact this.mono (by omega)
  ·split at e
   ·obtain rfl:=JB e
    intro p hp;simp only [varsT,h1,if_true,JJ,JZ,or_false] at hp;subst hp;simp only;omega
   ·obtain rfl:=JB e
    intro p hp;simp only [varsT,h1,if_true,JJ,JZ,or_false] at hp;subst hp;simp only;omega) (bB' hx v)
 exact this
def mt' (l:List (Int × Int)) (v:Int):Nat:=(l.filter fun q=>decide (q.1 - q.2 = v)).length
theorem kg' (v:Int):∀ (l:List (Int × Int)) (s:Int × Int),(l.foldl (fun s q=>if q.1 - q.2 = v then (s.1 + 1,max s.2 q.2) else s) s).1 = s.1 + mt' l v
 | [],s=>by simp [mt']
 | q :: r,s=>by
  simp only [List.foldl_cons,mt',List.filter_cons];rw [kg' v r]
  by_cases e:q.1 - q.2 = v
  ·simp [e,mt']; omega
  ·simp [e,mt']
theorem qT' (l m:List (Int × Int)) (v:Int):mt' (l ++ m) v = mt' l v + mt' m v:=by simp [mt']
section
variable {h:Int -> Nd -> Option Tr} {v:Int} {L:Nat}
mutual
theorem oO' (hg:∀ d n y,h d n = some y -> (row y).length <= 1 \/ (n.a - d = v /\ (row y).length <= L)) (hL:1 <= L):∀ (x:Tr) (d nb:Int) (y:Tr) (s:Md),okT cnt nx x s -> gT h x d nb = some y -> ((row y).length:Int) <= (row x).length + mt' (varsT x d nb) v * ((L:Int) - 1)
 | .mk n ks,d,nb,y,s,hx,e=>by
  obtain ⟨hc,hk⟩:=hx;simp only [gT] at e;split at e
  ·rename_i h1
   have:ks = []:=List.length_eq_zero_iff.1 (ey' hc h1);subst this;rcases hg d n y e with h2 | ⟨h2,h3⟩
   ·simp only [varsT,if_pos h1,row,rows,mt',List.filter_cons,List.filter_nil,List.length_singleton]
    split
    ·simp; omega
    ·simp; omega
   ·simp only [varsT,if_pos h1,row,rows,mt',List.filter_cons,List.filter_nil,List.length_singleton]
    simp [h2];omega
  ·rename_i h1
   split at e
   ·cases e
   ·rename_i ks' hk'
    obtain rfl:=JB e;have:=oP' hg hL ks n nb 0 d ks' s 0 hk hk';simp only [varsT,if_neg h1,row,JV];omega
theorem oP' (hg:∀ d n y,h d n = some y -> (row y).length <= 1 \/ (n.a - d = v /\ (row y).length <= L)) (hL:1 <= L):∀ (ks:List Tr) (n:Nd) (nb k d:Int) (ks':List Tr) (s:Md) (j:Nat),okL cnt nx ks n s j -> gK h ks n nb k d = some ks' -> ((rows ks').length:Int) <= (rows ks).length + mt' (varsK ks n nb k d) v * ((L:Int) - 1)
 | [],n,nb,k,d,ks',s,j,hx,e=>by
  simp only [gK,Option.some.injEq] at e;subst e;simp [rows,varsK,mt']
 | x :: r,n,nb,k,d,ks',s,j,hx,e=>by
  obtain ⟨hx,hr⟩:=hx;simp only [gK] at e;split at e
  ·cases e
  rename_i y hy;split at e
  ·cases e
  rename_i r' hr';obtain rfl:=JB e;have h1:=oO' hg hL x _ _ y _ hx hy;have h2:=oP' hg hL r n nb (k + 1) d r' s (j + 1) hr hr';simp only [rows,varsK,JK,qT',Int.natCast_add,Int.add_mul];omega
end
end
end Tm
namespace Go.Proofs.YtpealcfjbcpoiaaGreat
open Go.Wx Cd Tm
theorem nq' {x u:Tr} (hx:Ok .tm x) (hu:Ok .tm u) (hs:dl' u) {v:Int} (h:mm' x u v = false):(row (bf' x u v)).length <= 4096:=by
 have hp:=ag' u;have:=oO' (h:=aY' u v) (v:=v) (L:=(row u).length) (fun d n y e=>by
  simp only [aY'] at e;split at e
  ·rename_i g
   obtain rfl:=JB e;exact .inr ⟨by omega,kd' hu hs _⟩
  ·split at e
   ·obtain rfl:=JB e
    exact .inl (by simp [row,rows])
   ·obtain rfl:=JB e
    exact .inl (by simp [row,rows])) (by omega) x 0 0 _ .tm hx.1 (bB' hx v)
 have ht:=kg' v (varsT x 0 0) (0,0);unfold mm' at h;have h:=of_decide_eq_false h;unfold io' at h;rw [ht] at h;simp only [Int.zero_add] at h;omega
structure Ft (Q:Nd -> Prop) (N:Int) (x:Tr):Prop where
 ok:Ok .tm x
 len:(row x).length <= 4096
 bl:Bl x N
 al:Al Q x
structure Qk (Q:Nd -> Prop):Prop where
 var:∀ m:Nd,m.op = 1 -> Q m
 app:∀ m:Nd,m.op = 4 \/ m.op = 5 \/ m.op = 6 \/ m.op = 2 \/ m.op = 12 -> Q m
section
variable {Q:Nd -> Prop} {N:Int} {x:Tr}
theorem Ft.mono (h:Ft Q N x) {M:Int} (hm:N <= M):Ft Q M x:=⟨h.ok,h.len,h.bl.mono hm,h.al⟩
theorem Ft.wk (h:Ft Q N x) {R:Nd -> Prop} (hq:∀ m,Q m -> R m):Ft R N x:=⟨h.ok,h.len,h.bl,h.al.mono hq⟩
theorem Ft.small (h:Ft Q N x) (hN:N <= 100000):dl' x:=fun q hq=>by
 have h1:=gJ' x .tm 0 0 h.ok.1 (by omega) (by omega) (by omega) q hq;have h2:=h.bl q hq;have:=h.len;omega
theorem Ft.lift (hQ:Qk Q) (h:Ft Q N x) (hN:N <= 100000) {b:Int} (h0:0 <= b) (hb:b <= 500000):Ft Q (N + b) (aq' x b 0) :=
 ⟨iY' h.ok (h.small hN) h0 hb,KQ (gL' h.ok (h.small hN) hb) h.len,ms' h.ok (h.small hN) h0 hb h.bl,jb' hQ.var h.ok (h.small hN) hb h.al⟩
theorem Ft.subst (hQ:Qk Q) {u:Tr} {v:Int} (hx:Ft Q (N + 1 + v) x) (hu:Ft Q N u) (h0:0 <= N) (hN:N <= 100000) (hv0:0 <= v) (hv:v <= 300000) (hb:mm' x u v = false):Ft Q (N + v) (bf' x u v) :=
 ⟨oA' hx.ok hu.ok (hu.small hN),nq' hx.ok hu.ok (hu.small hN) hb,oN' hx.ok hu.ok (hu.small hN) hx.len hv0 hv h0 hx.bl hu.bl,oM' hQ.var hx.ok hu.ok (hu.small hN) hx.al hu.al⟩
theorem gN' {n:Nd} {nb:Int}:∀ (ks:List Tr) (j:Int) (d:Int) (k:Nat) (y:Tr),ks[k]? = some y -> ∀ q ∈ varsT y (d + arC n nb (j + k)) n.b,q ∈ varsK ks n nb j d
 | x :: r,j,d,0,y,h,q,hq=>by
  simp only [List.getElem?_cons_zero,Option.some.injEq] at h;subst h;simp only [varsK,JW];exact .inl (by simpa using hq)
 | x :: r,j,d,k + 1,y,h,q,hq=>by
  simp only [List.getElem?_cons_succ] at h;simp only [varsK,JW];refine .inr (gN' r (j + 1) d k y h q ?_);rw [show j + 1 + (k:Int) = j + ((k + 1:Nat):Int) by omega];exact hq
theorem eA' {n:Nd} {s:Md}:∀ (ks:List Tr) (j k:Nat) (y:Tr),okL cnt nx ks n s j -> ks[k]? = some y -> okT cnt nx y (nx s n (j + k))
 | x :: r,j,0,y,h,hk=>by
  simp only [List.getElem?_cons_zero,Option.some.injEq] at hk;subst hk;exact h.1
 | x :: r,j,k + 1,y,h,hk=>by
  have:=eA' r (j + 1) k y h.2 (by simpa using hk);rw [show j + (k + 1) = j + 1 + k by omega];exact this
theorem dy':∀ (ks:List Tr) (k:Nat) (y:Tr),eo' ks = true -> ks[k]? = some y -> fZ' y = true
 | x :: r,0,y,h,hk=>by
  simp only [List.getElem?_cons_zero,Option.some.injEq] at hk;subst hk;exact (cG' h).1
 | x :: r,k + 1,y,h,hk=>dy' r k y (cG' h).2 (by simpa using hk)
def kb (n:Nd) (k:Nat):Int:=if n.op = 12 then (if k % 2 = 1 then n.b else 0) else aJ' n k
theorem tn':∀ (ks:List Tr),(∀ k ∈ ks,k.ks.length = 2) -> ∀ (i:Nat) (y:Tr),(ks.flatMap (·.ks))[i]? = some y -> ∃ f,ks[i / 2]? = some f /\ f.ks[i % 2]? = some y
 | [],_,i,y,h=>by simp at h
 | f :: r,hk,i,y,h=>by
  simp only [List.flatMap_cons] at h;have hf:=hk f (by simp)
  by_cases hi:i < 2
  ·rw [List.getElem?_append_left (by omega)] at h
   refine ⟨f,?_,?_⟩
   ·rw [show i / 2 = 0 by omega]; rfl
   ·rw [show i % 2 = i by omega]; exact h
  ·rw [List.getElem?_append_right (by omega),hf] at h
   obtain ⟨g,h1,h2⟩:=tn' r (fun k hk'=>hk k (by simp [hk'])) (i - 2) y h;refine ⟨g,?_,?_⟩
   ·rw [show i / 2 = (i - 2) / 2 + 1 by omega]; exact h1
   ·rw [show i % 2 = (i - 2) % 2 by omega]; exact h2
theorem so' {Q:Nd -> Prop} {ks:List Tr} {k:Nat} {y:Tr} (h:Als Q ks) (hk:ks[k]? = some y):Al Q y:=lr' h (JQ hk)
theorem Ft.node {n:Nd} {ks:List Tr} (h:Ft Q N (.mk n ks)):Q n:=(ib'.1 h.al).1
theorem Ft.var_lt {n:Nd} {ks:List Tr} (h:Ft Q N (.mk n ks)) (h1:n.op = 1):0 <= n.a /\ n.a < N /\ ks = []:=by
 have hp:=h.ok.tm.1;have:=h.bl (n.a,0) (by simp [varsT,h1]);have hb:=ba' hp;exact ⟨hb.2.2.1,by simpa using this,List.length_eq_zero_iff.1 (ey' h.ok.kids.1 h1)⟩
theorem Ft.kid {n:Nd} {ks:List Tr} (h:Ft Q N (.mk n ks)) {k:Nat} {y:Tr} (hk:(kidsT (.mk n ks))[k]? = some y):Ft Q (N + kb n k) y:=by
 obtain ⟨hc,hok,hi⟩:=h.ok.kids;obtain ⟨hp,h3,h13⟩:=h.ok.tm;have hl:=fy' (.mk n ks) y (JQ hk);have hlen:=h.len;have ha:=(ib'.1 h.al).2;simp only [kidsT] at hk;split at hk
 ·simp at hk
 rename_i h2;have h1:n.op ≠ 1:=fun h1=>by
  have:=(h.var_lt h1).2.2;subst this;split at hk <;> simp at hk
 have hb:∀ q ∈ varsK ks n 0 0 0,q.1 - q.2 < N:=fun q hq=>h.bl q (by simpa [varsT,h1] using hq);split at hk
 ·rename_i h12
  have hf:∀ (i:Nat) f,ks[i]? = some f -> Ok .fn f:=fun i f hf=>⟨by
   have:=eA' ks 0 i f hok hf
   rwa [show nx Md.tm n (0 + i) = .fn by simp [nx,h2,h12]] at this,dy' ks i f hi hf⟩
  have h2l:∀ k ∈ ks,k.ks.length = 2:=fun f hm=>by
   obtain ⟨i,hi'⟩:=JH hm;obtain ⟨g,ty,bo,rfl,_⟩:=(hf i f hi').fn
   rfl
  obtain ⟨f,hf1,hf2⟩:=tn' ks h2l k y hk;obtain ⟨g,ty,bo,rfl,h13',hgp,hty,hbo⟩:=(hf _ f hf1).fn;have hal:=(ib'.1 (so' ha hf1)).2;have hv:∀ q ∈ varsT (.mk g [ty,bo]) 0 n.b,q.1 - q.2 < N:=fun q hq=>hb q (gN' ks 0 0 (k / 2) _ hf1 q (by
   rw [show (0:Int) + arC n 0 (0 + ((k / 2:Nat):Int)) = 0 by rw [eR' h13]; simp [aJ',h12]];exact hq))
  have hg1:g.op ≠ 1:=by omega
  simp only [varsT,if_neg hg1,varsK,JD,JW] at hv;simp only [Tr.ks] at hf2;unfold kb;rw [if_pos h12]
  by_cases hk2:k % 2 = 1
  ·rw [hk2] at hf2
   simp only [List.getElem?_cons_succ,List.getElem?_cons_zero,Option.some.injEq] at hf2;subst hf2;rw [if_pos hk2];refine ⟨hbo,by omega,?_,(cU'.1 (cU'.1 hal).2).1⟩;have:BlD bo (0 + arC g n.b (0 + 1)) g.b N:=fun q hq=>hv q (.inr hq);rw [hbo.bld] at this;refine this.mono ?_;simp [arC,h13']
  ·rw [show k % 2 = 0 by omega] at hf2
   simp only [List.getElem?_cons_zero,Option.some.injEq] at hf2;subst hf2;rw [if_neg hk2];refine ⟨hty,by omega,?_,(cU'.1 hal).1⟩;have:BlD ty (0 + arC g n.b 0) g.b N:=fun q hq=>hv q (.inl hq);rw [hty.bld] at this;refine this.mono ?_;simp [arC,h13']
 ·rename_i h12
  have hy:Ok .tm y:=⟨by
   have:=eA' ks 0 k y hok hk
   rwa [show nx Md.tm n (0 + k) = .tm by simp [nx,h2,h12]] at this,dy' ks k y hi hk⟩
  refine ⟨hy,by omega,?_,so' ha hk⟩;have:BlD y (0 + arC n 0 (0 + (k:Int))) n.b N:=fun q hq=>hb q (gN' ks 0 0 k y hk q hq);rw [hy.bld] at this;refine this.mono ?_;unfold kb;rw [if_neg h12,eR' h13];simp
theorem Ft.hd_args:∀ (L:Nat) (x:Tr),(row x).length <= L -> Ft Q N x -> Ft Q N (headT x) /\ ∀ y ∈ argsT x,Ft Q N y
 | 0,x,hl,_=>by
  have:=ag' x;omega
 | L + 1,.mk n ks,hl,h=>by
  by_cases h6:n.op = 6
  ·obtain ⟨f,a,rfl,hf,ha⟩:=dx' h.ok h6
   have hk:kidsT (.mk n [f,a]) = [f,a]:=by simp [kidsT,h6]
   have h1:=h.kid (k:=0) (y:=f) (by rw [hk]; rfl);have h2:=h.kid (k:=1) (y:=a) (by rw [hk]; rfl);have e1:kb n 0 = 0:=by simp [kb,aJ',h6]
   have e2:kb n 1 = 0:=by simp [kb,aJ',h6]
   rw [e1] at h1;rw [e2] at h2;simp only [Int.add_zero] at h1 h2;have hs:=fy' (.mk n [f,a]) f (by simp [hk]);obtain ⟨i1,i2⟩:=Ft.hd_args L f (by omega) h1;rw [bu' h6,bI' h6];exact ⟨i1,fun y hy=>(List.mem_append.1 hy).elim (i2 y) fun hy=>by
    obtain rfl:y = a:=by simpa using hy
    exact h2⟩
  ·rw [bv' h6,bJ' h6]
   exact ⟨h,fun y hy=>by cases hy⟩
theorem Ft.head (h:Ft Q N x):Ft Q N (headT x):=(Ft.hd_args _ x (KJ _) h).1
theorem Ft.args (h:Ft Q N x):∀ y ∈ argsT x,Ft Q N y:=(Ft.hd_args _ x (KJ _) h).2
theorem mu':∀ (ys:List Tr) (x:Tr),Ok .tm x -> Bl x N -> (∀ y ∈ ys,Ok .tm y /\ Bl y N) -> Bl (aj' x ys) N
 | [],x,_,hx,_=>hx
 | y :: r,x,ho,hx,hy=>by
  rw [aj'];have hy1:=hy y (by simp);refine mu' r _ (gn' [y] x ho (by simpa using hy1.1)) ?_ (fun z hz=>hy z (by simp [hz]));intro q hq;simp only [varsT,appN,varsK,JD] at hq;rw [if_neg (by decide)] at hq;simp only [JW] at hq;rcases hq with hq | hq
  ·exact hx q hq
  ·exact hy1.2 q hq
theorem qU' {ys:List Tr} {x:Tr} (hQ:Qk Q) (hx:Al Q x) (hy:∀ y ∈ ys,Al Q y):Al Q (aj' x ys):=by
 intro m hm;rw [bK'] at hm;rcases List.mem_append.1 hm with hm | hm
 ·obtain rfl:=(List.mem_replicate.1 hm).2
  exact hQ.app _ (by simp [appN])
 ·rcases List.mem_append.1 hm with hm | hm
  ·exact hx m hm
  ·have:∀ (l:List Tr),(∀ y ∈ l,Al Q y) -> m ∈ rows l -> Q m:=by
    intro l
    induction l with
    | nil=>intro _ h; simp [rows] at h
    | cons y l ih =>
     intro h hm;simp only [rows,JW] at hm;exact hm.elim (h y (by simp) m) (ih fun z hz=>h z (by simp [hz]))
   exact this ys hy hm
theorem Ft.apply (hQ:Qk Q) {ys:List Tr} (hx:Ft Q N x) (hy:∀ y ∈ ys,Ft Q N y) (hl:(row (aj' x ys)).length <= 4096):Ft Q N (aj' x ys) :=
 ⟨gn' ys x hx.ok fun y h=>(hy y h).ok,hl,mu' ys x hx.ok hx.bl fun y h=>⟨(hy y h).ok,(hy y h).bl⟩,qU' hQ hx.al fun y h=>(hy y h).al⟩
theorem oQ' {op:Int} (ho:op = 4 \/ op = 5):∀ (ys:List Tr) (x:Tr) (N:Int),Ok .tm x -> Bl x (N + ys.length) -> (∀ (i:Nat) y,ys[i]? = some y -> Ok .tm y /\ Bl y (N + i)) -> Bl (bW' op ys x) N
 | [],x,N,_,hx,_=>hx.mono (by simp)
 | d :: r,x,N,hxo,hx,hy=>by
  obtain ⟨h1,h1'⟩:=hy 0 d rfl;have h2:=oQ' ho r x (N + 1) hxo (hx.mono (by simp; omega)) (fun i y hi=>by
   obtain ⟨a,b⟩:=hy (i + 1) y (by simpa using hi);exact ⟨a,b.mono (by omega)⟩)
  have hbo:Ok .tm (bW' op r x):=ja' ho r x hxo fun z hz=>by
   obtain ⟨i,hi⟩:=JH hz;exact (hy (i + 1) z (by simpa using hi)).1
  rw [bW'];intro q hq;have h1n:op ≠ 1:=by omega
  have h13:op ≠ 13:=by omega
  simp only [varsT,varsK,JD,if_neg h1n,JW,arC,if_neg h13] at hq;rcases hq with hq | hq
  ·have:=h1'.mono (show N + ((0:Nat):Int) <= N + 0 by omega)
   have hb:aJ' ⟨op,0,0⟩ 0 = 0:=by rcases ho with rfl | rfl <;> decide
   rw [hb] at hq;exact (this.mono (by omega)) q hq
  ·have hb:aJ' ⟨op,0,0⟩ (0 + 1) = 1:=by rcases ho with rfl | rfl <;> decide
   rw [hb] at hq;exact (hbo.bld (d:=0 + 1) (nb:=0) (n:=N)).2 (h2.mono (by omega)) q hq
theorem oR' {op:Int} (hQ:Qk Q) (ho:op = 4 \/ op = 5):∀ (ys:List Tr) (x:Tr),Al Q x -> (∀ y ∈ ys,Al Q y) -> Al Q (bW' op ys x)
 | [],x,hx,_=>hx
 | d :: r,x,hx,hy=>by
  rw [bW',ib',cU',cU'];refine ⟨hQ.app _ (by simp only; omega),hy d (by simp),oR' hQ ho r x hx (fun z hz=>hy z (by simp [hz])),fun m hm=>by simp [rows] at hm⟩
theorem Ft.bind (hQ:Qk Q) {op:Int} (ho:op = 4 \/ op = 5) {ys:List Tr} (hx:Ft Q (N + ys.length) x) (hy:∀ (i:Nat) y,ys[i]? = some y -> Ft Q (N + i) y) (hl:(row (bW' op ys x)).length <= 4096):Ft Q N (bW' op ys x) :=
 ⟨ja' ho ys x hx.ok fun y h=>by
   obtain ⟨i,hi⟩:=JH h;exact (hy i y hi).ok,hl,oQ' ho ys x N hx.ok hx.bl fun i y hi=>⟨(hy i y hi).ok,(hy i y hi).bl⟩,oR' hQ ho ys x hx.al fun y h=>by
   obtain ⟨i,hi⟩:=JH h;exact (hy i y hi).al⟩
theorem Ft.one {n:Nd} (hp:ah' n = true) (h3:n.op ≠ 3) (h13:n.op ≠ 13) (h2:n.op ≠ 2) (hk:ar' n = 0) (hq:Q n) (hv:n.op = 1 -> n.a < N):Ft Q N (.mk n []) :=
 ⟨⟨⟨by simp [cnt,hp,h3,h13,h2,hk],trivial⟩,by simp [fZ',eo',h2]⟩,by simp [row,rows],fun q hq=>by
   simp only [varsT] at hq;split at hq
   ·rename_i h1
    simp only [JJ,JZ,or_false] at hq;subst hq;have:=hv h1;simp only;omega
   ·simp [varsK] at hq,fun m hm=>by
   simp only [row,rows,JJ,JZ,or_false] at hm;subst hm;exact hq⟩
def varX (a:Int):Tr:=.mk ⟨1,a,0⟩ []
theorem Ft.varX (hQ:Qk Q) {a:Int} (h0:0 <= a) (ha:a < N) (h1:a <= 1048576):Ft Q N (varX a) :=
 Ft.one (by simp [ah',inR,h0,h1]) (by simp) (by simp) (by simp) (by simp [ar']) (hQ.var _ rfl) fun _=>ha
end
end Go.Proofs.YtpealcfjbcpoiaaGreat
namespace Lv
structure Atom where
 var:Int
 add:Int
deriving Inhabited,DecidableEq
structure aU' where
 low:Int
 add:Int
 high:Int
deriving Inhabited,DecidableEq
abbrev G:=Int -> Int -> Option Int
def putG (g:G) (x y v:Int):G:=fun a b=>if a = x /\ b = y then some v else g a b
def more (o:Option Int) (v:Int):Int:=match o with
 | none=>v
 | some old=>if old < v then v else old
def cl' (g:G) (x y v:Int):G:=putG g x y (more (g x y) v)
def rng {α:Type} (f:Nat -> α -> α):Nat -> α -> α
 | 0,a=>a
 | k + 1,a=>f k (rng f k a)
def ic' (n:Nat):G:=rng (fun v g=>putG (putG g v v 0) 0 v 0) n (fun _ _=>none)
def bw' (vars:Int) (o:aU'):Bool:=decide (o.low < 0 \/ vars < o.low \/ o.high < 0 \/ vars < o.high \/ o.add < -1000 \/ 1000 < o.add)
def mv' (vars:Int):List aU' -> G -> Option G
 | [],g=>some g
 | o :: r,g=>if bw' vars o then none else mv' vars r (cl' g o.low o.high o.add)
def step (m low high:Nat) (g:G):G:=match g low m,g m high with
 | some a,some b=>cl' g low high (a + b)
 | _,_=>g
def cn' (n m low:Nat) (g:G):G:=rng (step m low) n g
def pass (n m:Nat) (g:G):G:=rng (cn' n m) n g
def uy' (g:G) (v:Nat):Bool:=decide (0 < (g v v).getD 0)
def cyc (n:Nat) (g:G):Bool:=(List.range n).any (uy' g)
def nL' (n:Nat):Nat -> Nat -> G -> Option G
 | 0,_,g=>some g
 | f + 1,m,g=>if cyc n (pass n m g) then none else nL' n f (m + 1) (pass n m g)
def bL' (vars:Int) (os:List aU'):Except Int G :=
 if vars < 0 \/ 16 < vars then .error 1
 else if 64 < os.length then .error 5
 else match mv' vars os (ic' (vars.toNat + 1)) with
  | none=>.error 1
  | some g=>match nL' (vars.toNat + 1) (vars.toNat + 1) 0 g with
   | none=>.error 7
   | some g'=>.ok g'
def non:Int:=-1000000000
def wg' (v:Nat) (s:List Int × Bool):List Int × Bool :=
 if s.1.getD 0 0 ≠ non /\ s.1.getD v 0 < s.1.getD 0 0 then (s.1.set v (s.1.getD 0 0),true) else s
def wh' (s:List Int × Bool) (o:aU'):List Int × Bool :=
 if s.1.getD o.low.toNat 0 ≠ non /\ s.1.getD o.high.toNat 0 < s.1.getD o.low.toNat 0 + o.add then (s.1.set o.high.toNat (s.1.getD o.low.toNat 0 + o.add),true) else s
def round (n:Nat) (os:List aU') (d:List Int):List Int × Bool:=os.foldl wh' (rng wg' n (d,false))
def sp' (n:Nat) (os:List aU'):Nat -> List Int -> Option (List Int)
 | 0,_=>none
 | r + 1,d=>if (round n os d).2 then sp' n os r (round n os d).1 else some (round n os d).1
def wi' (n:Nat) (os:List aU') (low:Nat):Option (List Int):=sp' n os (n + 1) ((List.replicate n non).set low 0)
def checkR (vars:Int) (os:List aU'):Int :=
 if vars < 0 \/ 16 < vars then 1
 else if 64 < os.length then 5
 else if os.any (bw' vars) then 1
 else if (List.range (vars.toNat + 1)).all (fun v=>(wi' (vars.toNat + 1) os v).isSome) then 0 else 7
def Rg (n:Nat) (x:Int):Prop:=0 <= x /\ x < n
inductive uS' (n:Nat) (os:List aU'):Int -> Int -> Int -> Prop
 | zero (y:Int) (h:Rg n y):uS' n os 0 y 0
 | self (y:Int) (h:Rg n y):uS' n os y y 0
 | ord (o:aU') (h:o ∈ os) (h1:Rg n o.low) (h2:Rg n o.high):uS' n os o.low o.high o.add
inductive Walk (n:Nat) (os:List aU'):Int -> Int -> Int -> Prop
 | nil (x:Int) (h:Rg n x):Walk n os x x 0
 | snoc {x y z p q:Int} (h:Walk n os x y p) (e:uS' n os y z q):Walk n os x z (p + q)
theorem Walk.trans {n:Nat} {os:List aU'} {x y z p q:Int} (h:Walk n os x y p) (k:Walk n os y z q):Walk n os x z (p + q):=by
 induction k with
 | nil hx=>simpa using h
 | snoc k e ih=>rw [<- Int.add_assoc]; exact .snoc ih e
theorem Walk.one {n:Nat} {os:List aU'} {x y p:Int} (e:uS' n os x y p) (hx:Rg n x):Walk n os x y p:=by
 have:=Walk.snoc (Walk.nil x hx) e
 simpa using this
def Ok (n:Nat) (os:List aU') (g:G):Prop:=∀ x y v,g x y = some v -> Rg n x /\ Rg n y /\ Walk n os x y v
def Le (g g':G):Prop:=∀ x y v,g x y = some v -> ∃ v',g' x y = some v' /\ v <= v'
theorem Le.refl (g:G):Le g g:=fun _ _ v h=>⟨v,h,Int.le_refl _⟩
theorem Le.trans {a b c:G} (h:Le a b) (k:Le b c):Le a c:=fun x y v hv=>by
 obtain ⟨v',h1,h2⟩:=h x y v hv;obtain ⟨v'',h3,h4⟩:=k x y v' h1;exact ⟨v'',h3,by omega⟩
theorem more_cases (o:Option Int) (v:Int):(more o v = v /\ ∀ u,o = some u -> u <= v) \/ (o = some (more o v) /\ v <= more o v):=by
 unfold more;split
 ·exact .inl ⟨rfl,fun u h=>by cases h⟩
 ·rename_i old
  split
  ·exact .inl ⟨rfl, fun u h => by have : old = u := by simpa using h
                                  omega⟩
  ·exact .inr ⟨rfl,by omega⟩
theorem ir' (g:G) (x y v:Int):∃ u,cl' g x y v x y = some u /\ v <= u:=by
 refine ⟨more (g x y) v,by simp [cl',putG],?_⟩;rcases more_cases (g x y) v with ⟨h,_⟩ | ⟨_,h⟩ <;> omega
theorem eX' (g:G) (x y v a b:Int) (h:¬ (a = x /\ b = y)):cl' g x y v a b = g a b:=by simp [cl',putG,h]
theorem raise_cases (g:G) (x y v a b u:Int) (h:cl' g x y v a b = some u):g a b = some u \/ (a = x /\ b = y /\ u = v):=by
 by_cases e:a = x /\ b = y
 ·obtain ⟨rfl,rfl⟩:=e
  simp only [cl',putG,and_self,if_true,Option.some.injEq] at h;rcases more_cases (g a b) v with ⟨h1,_⟩ | ⟨h1,_⟩
  ·exact .inr ⟨rfl,rfl,by omega⟩
  ·exact .inl (by rw [h1,h])
 ·rw [eX' _ _ _ _ _ _ e] at h; exact .inl h
theorem mw' (g:G) (x y v:Int):Le g (cl' g x y v):=by
 intro a b u hu
 by_cases e:a = x /\ b = y
 ·obtain ⟨rfl,rfl⟩:=e
  refine ⟨more (g a b) v,by simp [cl',putG],?_⟩;rcases more_cases (g a b) v with ⟨h1,h2⟩ | ⟨h1,_⟩
  ·have:=h2 u hu; omega
  ·rw [hu] at h1 ⊢; have:u = more (some u) v:=by simpa using h1
   omega
 ·exact ⟨u,by rw [eX' _ _ _ _ _ _ e]; exact hu,Int.le_refl _⟩
theorem mx' {n:Nat} {os:List aU'} {g:G} (hg:Ok n os g) {x y v:Int} (hx:Rg n x) (hy:Rg n y) (hw:Walk n os x y v):Ok n os (cl' g x y v):=by
 intro a b u hu;rcases raise_cases g x y v a b u hu with h | ⟨rfl,rfl,rfl⟩
 ·exact hg a b u h
 ·exact ⟨hx,hy,hw⟩
theorem bX' {α:Type} {f:Nat -> α -> α} (p:Nat -> α -> Prop) {a:α} (h0:p 0 a):∀ k,(∀ i,i < k -> ∀ x,p i x -> p (i + 1) (f i x)) -> p k (rng f k a)
 | 0,_=>h0
 | k + 1,h=>h k (Nat.lt_succ_self k) _ (bX' p h0 k fun i hi=>h i (Nat.lt_succ_of_lt hi))
theorem tp' {n k:Nat} (h:k < n):Rg n (k:Int):=⟨by omega,by omega⟩
theorem gp' (n:Nat):∀ k,k <= n -> ∀ x y v,rng (fun v g=>putG (putG g v v 0) 0 v 0) k (fun _ _=>none) x y = some v ↔ (v = 0 /\ ((x = y /\ Rg k x) \/ (x = 0 /\ Rg k y)))
 | 0,_,x,y,v=>by simp [rng,Rg] <;> omega
 | k + 1,hk,x,y,v=>by
  have ih:=gp' n k (by omega) x y v;simp only [rng,putG];unfold Rg at *
  split
  ·rename_i e; simp only [Option.some.injEq]; omega
  ·split
   ·rename_i e; simp only [Option.some.injEq]; omega
   ·rename_i e1 e2; rw [ih]; omega
theorem qV' (n:Nat) (os:List aU'):Ok n os (ic' n):=by
 intro x y v h;obtain ⟨rfl,h' | h'⟩:=(gp' n n (KJ _) x y v).1 h
 ·obtain ⟨rfl,h2⟩:=h'; exact ⟨h2,h2,.one (.self _ h2) h2⟩
 ·obtain ⟨rfl,h2⟩:=h'
  have h0:Rg n 0:=by unfold Rg at *; omega
  exact ⟨h0,h2,.one (.zero _ h2) h0⟩
theorem step_cases (m low high:Nat) (g:G):(∃ a b,g low m = some a /\ g m high = some b /\ step m low high g = cl' g low high (a + b)) \/ step m low high g = g:=by
 unfold step;split
 ·rename_i a b ha hb; exact .inl ⟨a,b,ha,hb,rfl⟩
 ·exact .inr rfl
theorem kh' {m low high:Nat} {g:G} {a b:Int} (ha:g low m = some a) (hb:g m high = some b):step m low high g = cl' g low high (a + b):=by
 unfold step; rw [ha,hb]
theorem tq' {n:Nat} {os:List aU'} {g:G} (hg:Ok n os g) (m low high:Nat):Ok n os (step m low high g):=by
 unfold step;split
 ·rename_i a b ha hb
  obtain ⟨h1,h2,h3⟩:=hg _ _ _ ha;obtain ⟨h4,h5,h6⟩:=hg _ _ _ hb;exact mx' hg h1 h5 (h3.trans h6)
 ·exact hg
theorem gO' (m low high:Nat) (g:G):Le g (step m low high g):=by
 unfold step;split
 ·exact mw' _ _ _ _
 ·exact Le.refl _
theorem ls' {n:Nat} {os:List aU'} {g:G} (hg:Ok n os g) (m:Nat):Ok n os (pass n m g) :=
 bX' (fun _ g=>Ok n os g) hg n fun i _ _ hx=>bX' (fun _ g=>Ok n os g) hx n fun j _ _ hy=>tq' hy m i j
theorem jc' (n m:Nat) (g:G):Le g (pass n m g) :=
 bX' (fun _ g'=>Le g g') (Le.refl g) n fun i _ _ hx=>bX' (fun _ g'=>Le g g') hx n fun j _ y hy=>hy.trans (gO' m i j y)
theorem oS' {n m:Nat} {g:G} (hz:g m m = some 0) :
  ∀ x y v,pass n m g x y = some v -> g x y = some v \/ ∃ a b,g x m = some a /\ g m y = some b /\ v = a + b:=by
 have key:∀ (g':G),(∀ i,g' i m = g i m) -> (∀ i,g' m i = g m i) -> (∀ x y v,g' x y = some v -> g x y = some v \/ ∃ a b,g x m = some a /\ g m y = some b /\ v = a + b) -> ∀ low high:Nat,
   (∀ i,step m low high g' i m = g i m) /\ (∀ i,step m low high g' m i = g m i) /\ ∀ x y v,step m low high g' x y = some v -> g x y = some v \/ ∃ a b,g x m = some a /\ g m y = some b /\ v = a + b:=by
  intro g' h1 h2 h3 low high;rcases step_cases m low high g' with ⟨a,b,ha,hb,e⟩ | e
  ·rw [e]
   have ha':=ha; have hb':=hb;rw [h1] at ha';rw [h2] at hb';refine ⟨fun i=>?_,fun i=>?_,fun x y v hv=>?_⟩
   ·by_cases e:i = low /\ (m:Int) = high
    ·obtain ⟨rfl,e2⟩:=e
     rw [<- e2] at hb' ⊢;rw [hz] at hb';have:b = 0:=by simpa using hb'.symm
     subst this;have hlm:g' low m = some a:=ha;simp only [cl',putG,and_self,if_true,hlm,more,Int.add_zero,Int.lt_irrefl,if_false];rw [<- h1]; exact hlm.symm
    ·rw [eX' _ _ _ _ _ _ e]; exact h1 i
   ·by_cases e:(m:Int) = low /\ i = high
    ·obtain ⟨e1,rfl⟩:=e
     rw [<- e1] at ha' ⊢;rw [hz] at ha';have:a = 0:=by simpa using ha'.symm
     subst this;simp only [cl',putG,and_self,if_true,hb,more,Int.zero_add,Int.lt_irrefl,if_false];rw [<- h2]; exact hb.symm
    ·rw [eX' _ _ _ _ _ _ e]; exact h2 i
   ·rcases raise_cases _ _ _ _ _ _ _ hv with h | ⟨rfl,rfl,rfl⟩
    ·exact h3 _ _ _ h
    ·exact .inr ⟨a,b,ha',hb',rfl⟩
  ·rw [e]; exact ⟨h1,h2,h3⟩
 have:=bX' (f:=cn' n m) (fun _ g'=>(∀ i,g' i m = g i m) /\ (∀ i,g' m i = g m i) /\ ∀ x y v,g' x y = some v -> g x y = some v \/ ∃ a b,g x m = some a /\ g m y = some b /\ v = a + b)
  (a:=g) ⟨fun _=>rfl,fun _=>rfl,fun _ _ _ h=>.inl h⟩ n fun i _ _ ⟨h1,h2,h3⟩ =>
   bX' (f:=step m i) (fun _ g'=>(∀ i,g' i m = g i m) /\ (∀ i,g' m i = g m i) /\ ∀ x y v,g' x y = some v -> g x y = some v \/ ∃ a b,g x m = some a /\ g m y = some b /\ v = a + b)
    ⟨h1,h2,h3⟩ n fun j _ y ⟨k1,k2,k3⟩=>key y k1 k2 k3 i j
 exact this.2.2
theorem cV' {n m:Nat} {g:G} {x y a b:Int} (hx:Rg n x) (hy:Rg n y) (ha:g x m = some a) (hb:g m y = some b):∃ v,pass n m g x y = some v /\ a + b <= v:=by
 obtain ⟨i,rfl⟩:=Int.eq_ofNat_of_zero_le hx.1;obtain ⟨j,rfl⟩:=Int.eq_ofNat_of_zero_le hy.1;have hi:i < n:=by have:=hx.2; omega
 have hj:j < n:=by have:=hy.2; omega
 have hrow:∀ (g':G),Le g g' -> ∀ k,j < k -> ∃ v,rng (step m i) k g' i j = some v /\ a + b <= v:=by
  intro g' hg' k
  induction k with
  | zero=>omega
  | succ k ih =>
   intro hk
   by_cases e:j = k
   ·subst e
    have hle:Le g (rng (step m i) j g'):=bX' (fun _ x=>Le g x) hg' j fun q _ x hx=>hx.trans (gO' m i q x);obtain ⟨a',h1,h2⟩:=hle _ _ _ ha;obtain ⟨b',h3,h4⟩:=hle _ _ _ hb;simp only [rng];have:step m i j (rng (step m i) j g') = cl' (rng (step m i) j g') i j (a' + b'):=by
     exact kh' h1 h3
    rw [this];obtain ⟨u,hu,hle'⟩:=ir' (rng (step m i) j g') i j (a' + b');exact ⟨u,hu,by omega⟩
   ·obtain ⟨v,hv,hle⟩:=ih (by omega)
    obtain ⟨v',h1,h2⟩:=gO' m i k _ _ _ _ hv;exact ⟨v',h1,by omega⟩
 have hall:∀ k,i < k -> ∃ v,rng (cn' n m) k g i j = some v /\ a + b <= v:=by
  intro k
  induction k with
  | zero=>omega
  | succ k ih =>
   intro hk
   by_cases e:i = k
   ·subst e
    have hle:Le g (rng (cn' n m) i g):=bX' (fun _ x=>Le g x) (Le.refl g) i fun q _ _ hx=>bX' (fun _ z=>Le g z) hx n fun r _ z hz=>hz.trans (gO' m q r z);exact hrow _ hle n hj
   ·obtain ⟨v,hv,hle⟩:=ih (by omega)
    have:Le (rng (cn' n m) k g) (cn' n m k (rng (cn' n m) k g)):=bX' (fun _ z=>Le (rng (cn' n m) k g) z) (Le.refl _) n fun r _ z hz=>hz.trans (gO' m k r z);obtain ⟨v',h1,h2⟩:=this _ _ _ hv;exact ⟨v',h1,by omega⟩
 exact hall n hi
def Tri (m:Nat) (g:G):Prop:=∀ (k:Nat) x y a b,k < m -> g x k = some a -> g k y = some b -> ∃ v,g x y = some v /\ a + b <= v
theorem ki' {n:Nat} {g:G} (h:cyc n g = false) {v:Nat} (hv:v < n) {u:Int} (hu:g v v = some u):u <= 0:=by
 unfold cyc at h;have:=List.any_eq_false.1 h v (List.mem_range.2 hv);unfold uy' at this;simp [hu] at this;omega
theorem qW' {n:Nat} {g:G} (h:cyc n g = true):∃ v:Nat,v < n /\ ∃ u,g v v = some u /\ 0 < u:=by
 unfold cyc at h;obtain ⟨v,hv,h⟩:=List.any_eq_true.1 h;refine ⟨v,List.mem_range.1 hv,?_⟩;unfold uy' at h;cases hg:g v v with
 | none=>simp [hg] at h
 | some u=>simp [hg] at h; exact ⟨u,rfl,h⟩
def Diag (n:Nat) (g:G):Prop:=∀ v:Nat,v < n -> ∃ u,g v v = some u /\ 0 <= u
theorem Diag.le {n:Nat} {g g':G} (h:Diag n g) (k:Le g g'):Diag n g':=fun v hv=>by
 obtain ⟨u,h1,h2⟩:=h v hv;obtain ⟨u',h3,h4⟩:=k _ _ _ h1;exact ⟨u',h3,by omega⟩
theorem qX' {n m:Nat} {os:List aU'} (hm:m < n) {g:G} (hg:Ok n os g) (hd:Diag n g) (ht:Tri m g) (hc:cyc n (pass n m g) = false):Tri (m + 1) (pass n m g):=by
 have hz:g m m = some 0:=by
  obtain ⟨u,h1,h2⟩:=hd m hm;obtain ⟨u',h3,h4⟩:=jc' n m g _ _ _ h1;have:=ki' hc hm h3;rw [h1]; congr 1; omega
 have hz':=oS' (n:=n) hz;have hle:=jc' n m g;intro k x y a b hk ha hb;have hgo:=ls' hg m;have hx:=(hgo _ _ _ ha).1;have hy:=(hgo _ _ _ hb).2.1;have ha':=hz' _ _ _ ha;have hb':=hz' _ _ _ hb
 by_cases e:k = m
 ·subst e
  have h1:g x k = some a:=by
   rcases ha' with h | ⟨p,q,hp,hq,rfl⟩
   ·exact h
   ·rw [hz] at hq; have:q = 0:=by simpa using hq.symm
    subst this; simpa using hp
  have h2:g k y = some b:=by
   rcases hb' with h | ⟨p,q,hp,hq,rfl⟩
   ·exact h
   ·rw [hz] at hp; have:p = 0:=by simpa using hp.symm
    subst this; simpa using hq
  exact cV' hx hy h1 h2
 ·have hkm:k < m:=by omega
  rcases ha' with h1 | ⟨a1,a2,h1,h1',rfl⟩ <;> rcases hb' with h2 | ⟨b1,b2,h2,h2',rfl⟩
  ·obtain ⟨v,hv,hle1⟩:=ht k x y a b hkm h1 h2
   obtain ⟨v',h3,h4⟩:=hle _ _ _ hv;exact ⟨v',h3,by omega⟩
  ·obtain ⟨v,hv,hle1⟩:=ht k x m a b1 hkm h1 h2
   obtain ⟨v',h3,h4⟩:=cV' (n:=n) hx hy hv h2';exact ⟨v',h3,by omega⟩
  ·obtain ⟨v,hv,hle1⟩:=ht k m y a2 b hkm h1' h2
   obtain ⟨v',h3,h4⟩:=cV' (n:=n) hx hy h1 hv;exact ⟨v',h3,by omega⟩
  ·obtain ⟨v,hv,hle1⟩:=ht k m m a2 b1 hkm h1' h2
   rw [hz] at hv;have:v = 0:=by simpa using hv.symm
   obtain ⟨v',h3,h4⟩:=cV' (n:=n) hx hy h1 h2';exact ⟨v',h3,by omega⟩
theorem kj' {n:Nat} {os:List aU'}:∀ (f m:Nat) (g:G),m + f = n -> Ok n os g -> Diag n g -> Tri m g -> (1 <= m -> cyc n g = false) ->
  match nL' n f m g with
  | none=>∃ x w,Walk n os x x w /\ 0 < w
  | some g'=>Ok n os g' /\ Le g g' /\ Tri n g' /\ (1 <= n -> ∀ v:Nat,v < n -> g' v v = some 0)
 | 0,m,g,hmf,hg,hd,ht,hc=>by
  simp only [nL'];have:m = n:=by omega
  subst this;refine ⟨hg,Le.refl _,ht,fun h1 v hv=>?_⟩;obtain ⟨u,h2,h3⟩:=hd v hv;have:=ki' (hc h1) hv h2;rw [h2]; congr 1; omega
 | f + 1,m,g,hmf,hg,hd,ht,hc=>by
  simp only [nL'];cases hcy:cyc n (pass n m g) with
  | true =>
   simp only [if_true];obtain ⟨v,hv,u,h1,h2⟩:=qW' hcy;exact ⟨v,u,(ls' hg m _ _ _ h1).2.2,h2⟩
  | false =>
   simp only [Bool.false_eq_true,if_false];have:=kj' (os:=os) f (m + 1) (pass n m g) (by omega) (ls' hg m) (hd.le (jc' n m g)) (qX' (by omega) hg hd ht hcy) (fun _=>hcy);cases h:nL' n f (m + 1) (pass n m g) with
   | none=>rw [h] at this; exact this
   | some g'=>rw [h] at this; exact ⟨this.1,(jc' n m g).trans this.2.1,this.2.2⟩
theorem kk' {vars:Int} {n:Nat} (hn:(n:Int) = vars + 1) {os:List aU'}:∀ (r:List aU') (g:G),(∀ o ∈ r,o ∈ os) -> Ok n os g -> ∀ g',mv' vars r g = some g' -> Ok n os g' /\ Le g g' /\ (∀ o ∈ r,∃ v,g' o.low o.high = some v /\ o.add <= v) /\ ∀ o ∈ r,bw' vars o = false
 | [],g,_,hg,g',h=>by
  simp only [mv',Option.some.injEq] at h;subst h;exact ⟨hg,Le.refl _,⟨fun o ho=>(by cases ho),fun o ho=>(by cases ho)⟩⟩
 | o :: r,g,hr,hg,g',h=>by
  simp only [mv'] at h;cases hb:bw' vars o with
  | true=>rw [hb] at h; simp at h
  | false =>
   rw [hb] at h;simp only [Bool.false_eq_true,if_false] at h;have hb':¬ (o.low < 0 \/ vars < o.low \/ o.high < 0 \/ vars < o.high \/ o.add < -1000 \/ 1000 < o.add):=by simpa [bw'] using hb
   have h1:Rg n o.low:=by unfold Rg; omega
   have h2:Rg n o.high:=by unfold Rg; omega
   have hok:=mx' hg h1 h2 (Walk.one (.ord o (hr o (by simp)) h1 h2) h1);obtain ⟨k1,k2,k3,k4⟩:=kk' hn r _ (fun q hq=>hr q (by simp [hq])) hok g' h;refine ⟨k1,(mw' _ _ _ _).trans k2,fun q hq=>?_,fun q hq=>?_⟩
   ·rcases List.mem_cons.1 hq with rfl | hq
    ·obtain ⟨u,h3,h4⟩:=ir' g q.low q.high q.add
     obtain ⟨u',h5,h6⟩:=k2 _ _ _ h3;exact ⟨u',h5,by omega⟩
    ·exact k3 q hq
   ·rcases List.mem_cons.1 hq with rfl | hq
    ·exact hb
    ·exact k4 q hq
theorem gP' {vars:Int}:∀ (r:List aU') (g:G),(mv' vars r g = none ↔ r.any (bw' vars) = true)
 | [],g=>by simp [mv']
 | o :: r,g=>by
  simp only [mv',List.any_cons];cases hb:bw' vars o with
  | true=>simp
  | false=>simpa using gP' r _
structure Closed (n:Nat) (os:List aU') (g:G):Prop where
 walk:∀ x y v,g x y = some v -> Rg n x /\ Rg n y /\ Walk n os x y v
 most:∀ x y p,Walk n os x y p -> ∃ v,g x y = some v /\ p <= v
 zero:∀ x,Rg n x -> g x x = some 0
theorem closedF_err {vars:Int} {os:List aU'} {e:Int} (h:bL' vars os = .error e) :
  ((vars < 0 \/ 16 < vars) /\ e = 1) \/ (¬ (vars < 0 \/ 16 < vars) /\ 64 < os.length /\ e = 5) \/ (¬ (vars < 0 \/ 16 < vars) /\ ¬ 64 < os.length /\ os.any (bw' vars) = true /\ e = 1) \/
  (¬ (vars < 0 \/ 16 < vars) /\ ¬ 64 < os.length /\ os.any (bw' vars) = false /\ e = 7 /\ ∃ x w,Walk (vars.toNat + 1) os x x w /\ 0 < w):=by
 unfold bL' at h;split at h
 ·rename_i hv; exact .inl ⟨hv,by simpa using h.symm⟩
 ·rename_i hv
  split at h
  ·rename_i hl; exact .inr (.inl ⟨hv,hl,by simpa using h.symm⟩)
  ·rename_i hl
   split at h
   ·rename_i hg; exact .inr (.inr (.inl ⟨hv,hl,(gP' os _).1 hg,by simpa using h.symm⟩))
   ·rename_i g0 hg0
    have hany:os.any (bw' vars) = false:=by
     cases hb:os.any (bw' vars) with
     | false=>rfl
     | true=>rw [(gP' os _).2 hb] at hg0; cases hg0
    split at h
    ·rename_i hg1
     have hn:((vars.toNat + 1:Nat):Int) = vars + 1:=by omega
     obtain ⟨k1,k2,k3,k4⟩:=kk' hn os (ic' (vars.toNat + 1)) (fun _ h=>h) (qV' _ os) g0 hg0;have hd:Diag (vars.toNat + 1) g0:=Diag.le (fun v hv=>⟨0,(gp' _ _ (KJ _) _ _ _).2 ⟨rfl,.inl ⟨rfl,tp' hv⟩⟩,Int.le_refl _⟩) k2;have:=kj' (os:=os) (vars.toNat + 1) 0 g0 (by omega) k1 hd (fun k _ _ _ _ hk=>by omega) (fun h=>by omega);rw [hg1] at this;exact .inr (.inr (.inr ⟨hv,hl,hany,by simpa using h.symm,this⟩))
    ·cases h
end Lv
