import Derived.Test.YtmlnlmkmpgkekaaGreatMy25
import Derived.Test.YtmlnlmkmpgkekaaGreatRows
import Derived.ProofKit
import Derived.OpenShut
import Derived.Deep.Slices
import Derived.JoinedCond
set_option linter.unusedVariables false
set_option linter.unusedSimpArgs false
set_option maxRecDepth 100000
set_option maxHeartbeats 4000000
namespace Go.Proofs.YtmlnlmkmpgkekaaGreat
open Go.Wx Cd Tm Lv Nm Vm
def qD':Nat -> Tr
 | 0=>.mk ⟨10,0,0⟩ []
 | k + 1=>.mk ⟨6,0,0⟩ [.mk ⟨10,0,1⟩ [],qD' k]
def fB':List Nat -> Tr
 | []=>.mk ⟨10,1,0⟩ []
 | n :: r=>.mk ⟨6,0,0⟩ [.mk ⟨6,0,0⟩ [.mk ⟨10,1,1⟩ [],qD' n],fB' r]
def listR:List Nat -> List Nd
 | []=>[⟨10,1,0⟩]
 | n :: r=>[⟨6,0,0⟩,⟨6,0,0⟩,⟨10,1,1⟩] ++ (numRow 0 n ++ listR r)
def dp':List Nat -> List Nat
 | []=>[1,0]
 | n :: r=>(if n = 0 then [2,2,0,0] else [2,2,0,1,n]) ++ dp' r
theorem jF':∀ k,row (qD' k) = numRow 0 k
 | 0=>rfl
 | k + 1=>by
  have:=jF' k;simp [qD',row,rows,numRow,this]
theorem dP':∀ l,row (fB' l) = listR l
 | []=>rfl
 | n :: r=>by
  have:=dP' r;simp [fB',row,rows,listR,this,jF']
theorem mf' {f u:Tr} (hf:Ok .tm f) (hu:Ok .tm u):Ok .tm (.mk ⟨6,0,0⟩ [f,u]):=by
 refine ⟨⟨rfl,hf.1,hu.1,trivial⟩,?_⟩;have h1:=hf.2;have h2:=hu.2;simp [fI',eg',h1,h2]
theorem qE':∀ k,Ok .tm (qD' k)
 | 0=>⟨⟨rfl,trivial⟩,rfl⟩
 | k + 1=>mf' ⟨⟨rfl,trivial⟩,rfl⟩ (qE' k)
theorem jG':∀ l,Ok .tm (fB' l)
 | []=>⟨⟨rfl,trivial⟩,rfl⟩
 | n :: r=>mf' (mf' ⟨⟨rfl,trivial⟩,rfl⟩ (qE' n)) (jG' r)
theorem lb':∀ k d nb,varsT (qD' k) d nb = []
 | 0,d,nb=>rfl
 | k + 1,d,nb=>by simp [qD',varsT,varsK,lb' k]
theorem iC':∀ l d nb,varsT (fB' l) d nb = []
 | [],d,nb=>rfl
 | n :: r,d,nb=>by simp [fB',varsT,varsK,lb' n,iC' r]
theorem lc':∀ k,∀ m ∈ numRow 0 k,QB SB m
 | 0=>by
  intro m hm;simp only [numRow,JJ,JZ,or_false] at hm;subst hm
  rfl
 | k + 1=>by
  intro m hm;simp only [numRow,JJ] at hm;rcases hm with rfl | rfl | hm
  ·rfl
  ·rfl
  ·exact lc' k m hm
theorem nw':∀ l,∀ m ∈ listR l,QB SB m
 | []=>by
  intro m hm;simp only [listR,JJ,JZ,or_false] at hm;subst hm
  rfl
 | n :: r=>by
  intro m hm;simp only [listR,JW,JJ,JZ,or_false] at hm;rcases hm with (rfl | rfl | rfl) | hm | hm
  ·rfl
  ·rfl
  ·rfl
  ·exact lc' n m hm
  ·exact nw' r m hm
theorem fk':∀ l,(∀ n ∈ l,n <= 40) -> (listR l).length <= 84 * l.length + 1
 | [],_=>by simp [listR]
 | n :: r,h=>by
  have h1:=h n (by simp);have h2:=fk' r fun m hm=>h m (by simp [hm]);have h3:=cZ' 0 n;simp only [listR,JK,JV,JU];omega
theorem dQ':∀ l,(dp' l).length <= 5 * l.length + 2
 | []=>by simp [dp']
 | n :: r=>by
  have:=dQ' r;simp only [dp',JK,JV];split <;> simp <;> omega
theorem sv':aS' SB = 0:=by kernel_rfl
theorem ob' (l:List Nat) (hl:l.length <= 12) (h:∀ n ∈ l,n <= 40):bG' SB [] (listR l) = 0:=by
 have hlen:=fk' l h;have hF:Ft (QB SB) 0 (fB' l):=⟨jG' l,by rw [dP']; omega,fun q hq=>(by rw [iC'] at hq; cases hq),fun m hm=>by rw [dP'] at hm; exact nw' l m hm⟩
 have:=sg' sv' (c:=[]) (fun i q hq=>by simp at hq) (by simp) (x:=fB' l) (by simpa using hF)
 rwa [dP'] at this
theorem qF':∀ k,(headT (qD' k)).n.op = 10 /\ (headT (qD' k)).n.a = 0
 | 0=>⟨rfl,rfl⟩
 | k + 1=>⟨rfl,rfl⟩
theorem sw':(List.range 41).all (fun k=>decide (vN' k = if k = 0 then [0,0] else [0,1,k])) = true:=by kernel_rfl
theorem uB' {k:Nat} (h:k <= 40):vN' k = if k = 0 then [0,0] else [0,1,k]:=by
 have:=List.all_eq_true.1 sw' k (List.mem_range.2 (by omega));exact of_decide_eq_true this
theorem sx' (k g n:Nat):dO' SB (g + 1) (qD' k) n = some (vN' k,n):=by
 obtain ⟨h1,h2⟩:=qF' k;simp only [dO'];rw [if_neg (by rw [h1]; simp),if_pos (by rw [h2]; rfl),jF'];show (hE' 0 (numRow 0 k)).map _ = _;rw [kV']
 rfl
theorem vR':kS' SB 1 0 500 = .ok ([],500):=by kernel_rfl
theorem vS':kS' SB 1 1 500 = .ok ([true,true],500):=by kernel_rfl
theorem vT':(tr (bm' SB 1).sort).n.a = 1:=by kernel_rfl
theorem wI':aW' [1 + 1,((countB [true,true]:Nat):Int)] = [2,2]:=by kernel_rfl
theorem wJ':aW' [0 + 1,((countB []:Nat):Int)] = [1,0]:=by kernel_rfl
theorem iD' {B:BoT} {g:Nat} {t:Tr} {n n':Nat} {ks:List Bool} (h1:(headT t).n.op = 10) (h2:(headT t).n.a ≠ B.nat) (h3:(tr (bm' B (headT t).n.a).sort).n.a = 1) (h4:(argsT t).length = nPar B (headT t).n.a + (ctD B (headT t).n.a (headT t).n.b).args.length) (hk:kS' B (headT t).n.a (headT t).n.b n = .ok (ks,n')) :
  dO' B (g + 1) t n = (fi' (dO' B g) (((argsT t).drop (nPar B (headT t).n.a)).zip ks) n').map fun a=>(aW' [(headT t).n.b + 1,(countB ks:Int)] ++ a.1,a.2):=by
 simp only [dO'];rw [if_neg (by rw [h1]; simp),if_neg h2,if_neg (by rw [h3,h4]; simp),hk]
theorem ld':∀ (l:List Nat) (g:Nat),(∀ n ∈ l,n <= 40) -> l.length + 2 <= g -> dO' SB g (fB' l) 500 = some (dp' l,500)
 | [],g + 1,_,_=>by
  refine (iD' (t:=fB' []) rfl (by decide) vT' rfl vR').trans ?_;show (fi' _ [] 500).map (fun a=>(aW' [0 + 1,((countB []:Nat):Int)] ++ a.1,a.2)) = _;simp only [fi',Option.map_some,wJ']
  rfl
 | n :: r,g + 2,h,hg=>by
  have hn:=h n (by simp);have ih:=ld' r (g + 1) (fun m hm=>h m (by simp [hm])) (by simp at hg; omega);refine (iD' (t:=fB' (n :: r)) rfl (by show (1:Int) ≠ 0; decide) vT' rfl vS').trans ?_;show (fi' (dO' SB (g + 1)) [(qD' n,true),(fB' r,true)] 500).map (fun a=>(aW' [1 + 1,((countB [true,true]:Nat):Int)] ++ a.1,a.2)) = _;simp only [fi',if_true,sx',ih,Option.bind_some,Option.map_some,wI',JD,dp',uB' hn]
  by_cases h0:n = 0
  ·simp [h0]
  ·simp [h0]
theorem od' (l:List Nat) (hl:l.length <= 12) (h:∀ n ∈ l,n <= 40):dO' SB GE (tr (listR l)) (aI' 500) = some (dp' l,500):=by
 have e:tr (listR l) = fB' l:=by rw [<- dP']; exact dH' (jG' l)
 rw [e];exact ld' l GE h (by have:=us'; omega)
theorem flat8:ts' rU8:=fun _ _ _ _ h=>h
theorem remE {P:Program} {w:World} {k:Value -> World -> Prop} {t:TypeId} {j:IntKind} {x y:Nat} (z:Nat) (hy:0 < y) (hz:x % y = z) (h:k (.int j (z:Int)) w):EvRun P (binOp .rem t (.int j (x:Int)) (.int j (y:Int))) w k:=by
 subst hz;refine run ?_ h;simp only [binOp_rem,Op.intDiv];rw [if_neg (show ¬ (y:Int) = 0 by omega),Int.tmod_eq_emod_of_nonneg (by omega),<- Int.natCast_emod]
 rfl
theorem iS {i:Int} (h:0 <= i /\ i <= 100):Go.Wx.I64 i:=by unfold Go.Wx.I64; omega
def prs:Nat -> List Nd
 | 0=>[]
 | k + 1=>prs k ++ [⟨6,0,0⟩,⟨10,0,1⟩]
theorem qG':∀ k,(prs k).length = 2 * k
 | 0=>rfl
 | k + 1=>by simp only [prs,JK,qG' k,JV,JU]; omega
theorem qH':∀ (k m:Nat),prs k ++ numRow 0 m = numRow 0 (k + m)
 | 0,m=>by simp [prs]
 | k + 1,m=>by
  rw [prs,List.append_assoc,show [(⟨6,0,0⟩:Nd),⟨10,0,1⟩] ++ numRow 0 m = numRow 0 (m + 1) from rfl,qH' k (m + 1)]
  congr 1
  omega
theorem _root_.Go.Wx.Own.sv {α:Type} {R:Rd α} {e lo:Nat} {w:World} {v:Value} {l:List α} (h:Own R e lo w v l) (hl:l.length <= 1099511627776) {lo':Nat} (hlo:lo' <= lo):SV R (New lo' w) l v:=by
 obtain ⟨ad,cd,hvd,hcd⟩:=h.cap;obtain ⟨ad',cd',hvd',hsd⟩:=h.den hl;rw [hvd] at hvd';injection hvd' with q1 q2 q3
 subst q1 q3;exact ⟨ad,cd,hvd,hsd.mono fun b o v h=>⟨KQ hlo h.1,h.2⟩,hcd⟩
structure LsS where
 j:Nat
 vt:Value
 vw:Value
section
variable {w:World}
theorem jH' {l:List Nat} {al:Option Addr} {cl:Nat} (hl:Sl rU8 (Im [] w) al l) :
  CC 4 #[.slice al l.length cl] w (fun e w'=>e = .returned (.bool true) /\ Kp [] w w'):=by
 refine oF Tryz.func4 ?_;refine cO (args:=[_]) 77 [.tmp 2] τok Tryz.func4 ?_;refine ab' (qC' w) ?_;rintro e w0 ⟨rfl,hk0⟩;refine ac' (fun g1=>?_) (fun g1=>?_)
 ·exact ⟨rfl,hk0⟩
 have g1:¬ (12:Int) < (l.length:Int):=g1;refine fill [.int .i64 10,.int .i64 1,.int .i64 0] rfl ?_;refine new fun b1 w1 hb1 h1 hs1 hk1=>?_;refine fill [.int .u8 1,.int .u8 0] rfl ?_;refine new fun b2 w2 hb2 h2 hs2 hk2=>?_;refine i6 ?_;obtain ⟨ns,hns⟩:∃ ns,ns = l.map (· % 41):=⟨_,rfl⟩
 have hnl:ns.length = l.length:=by rw [hns,List.length_map]
 have hn40:∀ n ∈ ns,n <= 40:=fun n hn=>by
  rw [hns] at hn;obtain ⟨y,_,rfl⟩:=List.mem_map.1 hn;have:=Nat.mod_lt y (show 0 < 41 by decide);omega
 have hr1:SV rNd (New w0.heap.size w2) [⟨10,1,0⟩] (.slice (some ⟨b1,0,none⟩) 1 1):=by
  have hO:Own rNd 42 w0.heap.size w2 (.slice (some ⟨b1,0,none⟩) 1 1) [⟨10,1,0⟩]:=⟨⟨[[.int .i64 10,.int .i64 1,.int .i64 0]],el' (n:=1) (h1.kp hk2 (by simp)) (by omega) (by simp [rNd]) (by simp [maxLen]),⟨rfl,iS (by decide),iS (by decide),iS (by decide)⟩,trivial⟩,(hk1.tr hk2).size⟩
  exact hO.sv (by simp) (KJ _)
 have hr2:SV rU8 (New w0.heap.size w2) [1,0] (.slice (some ⟨b2,0,none⟩) 2 2):=by
  have hO:Own rU8 5 w0.heap.size w2 (.slice (some ⟨b2,0,none⟩) 2 2) [1,0]:=⟨⟨[[.int .u8 1],[.int .u8 0]],el' (n:=2) h2 (by have:=hk1.size; omega) (by simp [rU8]) (by simp [maxLen]),⟨rfl,by decide⟩,⟨rfl,by decide⟩,trivial⟩,(hk1.tr hk2).size⟩
  exact hO.sv (by simp) (KJ _)
 have hdn:ns.drop l.length = []:=JY (by omega);refine lp τok (σ:=LsS) (fun q=>[(0,.slice al l.length cl),(3,q.vt),(4,q.vw),(5,.int .i64 ((q.j:Int) - 1))])
  (fun q w'=>q.j <= l.length /\ SV rNd (New w0.heap.size w') (listR (ns.drop q.j)) q.vt /\ SV rU8 (New w0.heap.size w') (dp' (ns.drop q.j)) q.vw /\ Kp [] w0 w') (fun q=>q.j) ⟨l.length,.slice (some ⟨b1,0,none⟩) 1 1,.slice (some ⟨b2,0,none⟩) 2 2⟩ rfl
  ⟨rfl,rfl,rfl,rfl,trivial⟩ ⟨KJ _,by simp only [hdn]; exact hr1,by simp only [hdn]; exact hr2,hk1.tr hk2⟩ ?_
 rintro ⟨j,vt,vw⟩ w3 ⟨hj,hvt,hvw,k03⟩;simp only at hj hvt hvw;have ht12:(ns.drop j).length <= 12:=by rw [List.length_drop]; omega
 have htl:=fk' (ns.drop j) fun n hn=>hn40 n (List.mem_of_mem_drop hn);have hwl:=dQ' (ns.drop j);obtain ⟨at_,ct_,rfl,hvt,hct⟩:=hvt;obtain ⟨aw,cw,rfl,hvw,hcw⟩:=hvw;refine ac' (fun g2=>?_) (fun g2=>?_)
 ·have g2:(0:Int) <= (j:Int) - 1:=g2
  obtain ⟨m,rfl⟩:∃ m,j = m + 1:=⟨j - 1,by omega⟩
  obtain ⟨x,hx,_⟩:=af' (l:=l) (k:=m) (by omega);obtain ⟨n,hn,hdn'⟩:=af' (l:=ns) (k:=m) (by omega);have hnx:x % 41 = n:=by
   have:ns[m]? = some (x % 41):=by rw [hns,JX,hx]; rfl
   rw [hn] at this;exact (JB this).symm
  have hn4:=hn40 n (JQ hn);obtain ⟨bl,ol,rfl,hcell,hx256⟩:=hl.u8 hx;refine ix m (by show ((m + 1:Nat):Int) - 1 = m; omega) (by omega) ?_;refine ld (Cl.cell (hcell.1.kp (hk0.tr k03) (by simp))) ?_;refine remE (y:=41) n (by decide) hnx ?_;refine i6 ?_;refine fill [.int .i64 6,.int .i64 0,.int .i64 0,.int .i64 6,.int .i64 0,.int .i64 0,.int .i64 10,.int .i64 1,.int .i64 1] rfl ?_;refine new fun b5 w5 hb5 h5 hs5 hk5=>?_;have hO5:Own rNd 42 w3.heap.size w5 (.slice (some ⟨b5,0,none⟩) 3 3) [⟨6,0,0⟩,⟨6,0,0⟩,⟨10,1,1⟩]:=⟨⟨[[.int .i64 6,.int .i64 0,.int .i64 0],[.int .i64 6,.int .i64 0,.int .i64 0],[.int .i64 10,.int .i64 1,.int .i64 1]],el' (n:=3) h5 (by omega) (by simp [rNd]) (by simp [maxLen]),⟨rfl,iS (by decide),iS (by decide),iS (by decide)⟩,⟨rfl,iS (by decide),iS (by decide),iS (by decide)⟩,⟨rfl,iS (by decide),iS (by decide),iS (by decide)⟩,trivial⟩,hk5.size⟩
  obtain ⟨PRE,hPRE⟩:∃ p:List Nd,p = [⟨6,0,0⟩,⟨6,0,0⟩,⟨10,1,1⟩]:=⟨_,rfl⟩
  rw [<- hPRE] at hO5;have hpl:PRE.length = 3:=by rw [hPRE]; rfl
  refine lp τok (σ:=Nat × Value) (fun q=>[(0,.slice (some ⟨bl,ol,none⟩) l.length cl),(3,.slice at_ (listR (ns.drop (m + 1))).length ct_),(4,.slice aw (dp' (ns.drop (m + 1))).length cw),(5,.int .i64 (((m + 1:Nat):Int) - 1)),(6,.int .i64 (n:Int)),(7,q.2),(8,.int .i64 (q.1:Int))])
   (fun q w'=>q.1 <= n /\ Own rNd 42 w3.heap.size w' q.2 (PRE ++ prs q.1) /\ Kp [] w3 w') (fun q=>n - q.1) (0,.slice (some ⟨b5,0,none⟩) 3 3) rfl
   ⟨rfl,rfl,rfl,rfl,rfl,rfl,rfl,trivial⟩ ⟨KV _,by simp only [prs,JD]; exact hO5,hk5⟩ ?_
  rintro ⟨k,vr⟩ w4 ⟨hk,hO4,hk4⟩;simp only at hk hO4;have hpr:=qG' k;obtain ⟨ar,cr,hvr,hcr⟩:=hO4.cap;refine ac' (fun g3=>?_) (fun g3=>?_)
  ·have g3:(k:Int) < (n:Int):=g3
   refine fill [.int .i64 6,.int .i64 0,.int .i64 0,.int .i64 10,.int .i64 0,.int .i64 1] rfl ?_;refine new fun b6 w6 hb6 h6 hs6 hk6=>?_;obtain ⟨a6,c6,e6,hs6',_⟩:SV rNd (Im [] w6) [⟨6,0,0⟩,⟨10,0,1⟩] (.slice (some ⟨b6,0,none⟩) 2 2):=ez' h6 (by simp [I64]) (by decide);injection e6 with q1 _ q2
   subst q1 q2;refine (hO4.kp hk6).apF τok rfl rfl (by decide) bi' (Im.sub _ _) [⟨6,0,0⟩,⟨10,0,1⟩] hs6' (by simp only [JK,hpr,hpl,JV,JU]; omega) (by simp only [JK,hpr,hpl,JV,JU,maxLen]; omega) fun v7 w7 hO7 hk7 hv7=>?_;refine i6 ?_;refine ⟨(k + 1,v7),by simp only; omega,rfl,⟨rfl,rfl,rfl,rfl,rfl,rfl,rfl,trivial⟩,by show k + 1 <= n; omega,?_,(hk4.tr hk6).own hk7 (hO4.kp hk6)⟩;simp only [prs];rw [<- List.append_assoc];exact hO7
  have g3:¬ (k:Int) < (n:Int):=g3;obtain rfl:k = n:=by omega
  refine fill [.int .i64 10,.int .i64 0,.int .i64 0] rfl ?_;refine new fun b6 w6 hb6 h6 hs6 hk6=>?_;obtain ⟨a6,c6,e6,hs6',_⟩:SV rNd (Im [] w6) [⟨10,0,0⟩] (.slice (some ⟨b6,0,none⟩) 1 1):=ez' h6 (by simp [I64]) (by decide);injection e6 with q1 _ q2
  subst q1 q2;refine (hO4.kp hk6).apF τok rfl rfl (by decide) bi' (Im.sub _ _) [⟨10,0,0⟩] hs6' (by simp only [JK,hpr,hpl,JV,JU]; omega) (by simp only [JK,hpr,hpl,JV,JU,maxLen]; omega) fun v7 w7 hO7 hk7 hv7=>?_;have k37:Kp [] w3 w7:=(hk4.tr hk6).own hk7 (hO4.kp hk6);refine hO7.apF τok rfl rfl (by decide) bi' ((New.sub _ _).tr k37) _ hvt (by simp only [JK,hpr,hpl,JV,JU]; omega) (by simp only [JK,hpr,hpl,JV,JU,maxLen]; omega) fun v8 w8 hO8 hk8 hv8=>?_;have k38:Kp [] w3 w8:=k37.own hk8 hO7;have e8:PRE ++ prs k ++ [⟨10,0,0⟩] ++ listR (ns.drop (m + 1)) = listR (ns.drop m):=by
   rw [hdn',listR,<- hPRE,show [(⟨10,0,0⟩:Nd)] = numRow 0 0 from rfl,List.append_assoc PRE,qH',List.append_assoc]
   rfl
  rw [e8] at hO8;have htl8:=fk' (ns.drop m) fun n hn=>hn40 n (List.mem_of_mem_drop hn);have hdl8:(ns.drop m).length <= 12:=by rw [List.length_drop]; omega
  have hT8:=hO8.sv (by omega) k03.size;have ot:=hT8.one;refine uG' (k:Int) (uP' (by omega) (by omega)) ?_;refine fill [.int .u8 2,.int .u8 2,.int .u8 0,.int .u8 1,.int .u8 (k:Int)] rfl ?_;refine new fun b9 w9 hb9 h9 hs9 hk9=>?_;refine ac' (fun g4=>?_) (fun g4=>?_)
  ·have g4:(k:Int) = 0:=g4
   obtain rfl:k = 0:=by omega
   refine fill [.int .u8 2,.int .u8 2,.int .u8 0,.int .u8 0] rfl ?_;refine new fun ba wa hba ha hsa hka=>?_;have kx:Kp [] w8 wa:=hk9.tr hka;have hsz:=hk9.size;have hOh:Own rU8 5 w8.heap.size wa (.slice (some ⟨ba,0,none⟩) 4 4) [2,2,0,0]:=⟨⟨[[.int .u8 2],[.int .u8 2],[.int .u8 0],[.int .u8 0]],el' (n:=4) ha (by omega) (by simp [rU8]) (by simp [maxLen]),⟨⟨rfl,by decide⟩,⟨rfl,by decide⟩,⟨rfl,by decide⟩,⟨rfl,by decide⟩,trivial⟩⟩,(kx).size⟩
   refine hOh.apF τok rfl rfl (by decide) flat8 ((New.sub _ _).tr (k38.tr kx)) _ hvw (by simp only [JV,JU]; omega) (by simp only [JV,JU,maxLen]; omega) fun vz wz hOz hkz hvz=>?_;have k8z:Kp [] w8 wz:=(kx).own hkz hOh;have ez:[2,2,0,0] ++ dp' (ns.drop (m + 1)) = dp' (ns.drop m):=by
    rw [hdn',dp',if_pos rfl]
   rw [ez] at hOz;have hZ:=hOz.sv (by have:=dQ' (ns.drop m); omega) (k03.tr k38).size;have oz:=hZ.one;refine Go.Wx.i64n ((m:Int) - 1) (by omega) (by omega) (by show ((m + 1:Nat):Int) - 1 - 1 = _; omega) ?_;exact ⟨⟨m,v8,vz⟩,Nat.lt_succ_self m,rfl,⟨rfl,rfl,rfl,rfl,trivial⟩,by show m <= _; omega,hT8.mono fun b o u h=>⟨h.1,h.2.kp k8z (by simp)⟩,hZ,k03.tr (k38.tr k8z)⟩
  ·have g4:¬ (k:Int) = 0:=g4
   have hOh:Own rU8 5 w8.heap.size w9 (.slice (some ⟨b9,0,none⟩) 5 5) [2,2,0,1,k]:=⟨⟨[[.int .u8 2],[.int .u8 2],[.int .u8 0],[.int .u8 1],[.int .u8 (k:Int)]],el' (n:=5) h9 (by omega) (by simp [rU8]) (by simp [maxLen]),⟨⟨rfl,by decide⟩,⟨rfl,by decide⟩,⟨rfl,by decide⟩,⟨rfl,by decide⟩,⟨rfl,by omega⟩,trivial⟩⟩,(hk9).size⟩
   refine hOh.apF τok rfl rfl (by decide) flat8 ((New.sub _ _).tr (k38.tr hk9)) _ hvw (by simp only [JV,JU]; omega) (by simp only [JV,JU,maxLen]; omega) fun vz wz hOz hkz hvz=>?_;have k8z:Kp [] w8 wz:=(hk9).own hkz hOh;have ez:[2,2,0,1,k] ++ dp' (ns.drop (m + 1)) = dp' (ns.drop m):=by
    rw [hdn',dp',if_neg (by omega)]
   rw [ez] at hOz;have hZ:=hOz.sv (by have:=dQ' (ns.drop m); omega) (k03.tr k38).size;have oz:=hZ.one;refine Go.Wx.i64n ((m:Int) - 1) (by omega) (by omega) (by show ((m + 1:Nat):Int) - 1 - 1 = _; omega) ?_;exact ⟨⟨m,v8,vz⟩,Nat.lt_succ_self m,rfl,⟨rfl,rfl,rfl,rfl,trivial⟩,by show m <= _; omega,hT8.mono fun b o u h=>⟨h.1,h.2.kp k8z (by simp)⟩,hZ,k03.tr (k38.tr k8z)⟩
 have g2:¬ (0:Int) <= (j:Int) - 1:=g2;obtain rfl:j = 0:=by omega
 rw [List.drop_zero] at hvt hvw;refine ab' (fj' w3) ?_;rintro e w4 ⟨⟨s4,rfl,hs4⟩,hk4⟩;have hT4:SV rNd (Im [] w4) (listR ns) (.slice at_ (listR ns).length ct_):=⟨at_,ct_,rfl,hvt.mono fun b o u h=>⟨(h.2.cl).kp hk4 (by simp),by simp⟩,hct⟩
 have hW4:Sl rU8 (Im [] w4) aw (dp' ns):=hvw.mono fun b o u h=>⟨(h.2.cl).kp hk4 (by simp),by simp⟩
 refine ab' (nu' (X:=[]) (B:=SB) (t:=listR ns) (fuel:=500) (by simp) hs4 hT4 (ob' ns (by omega) hn40) (od' ns (by omega) hn40) (by have:=dQ' ns; simp only; omega)) ?_;rintro e w5 ⟨⟨u5,rfl,hu5⟩,hk5⟩;obtain ⟨a5,c5,rfl,hu5,_⟩:SV rU8 (Im [] w5) (dp' ns) u5:=hu5;refine ab' (kX' (w:=w5) (C:=Im [] w5) (D:=Im [] w5) (Im.sub _ _) (Im.sub _ _) (dp' ns) (dp' ns) a5 aw c5 cw hu5 (hW4.mono fun b o u h=>h.tr hk5)) ?_;rintro e w6 ⟨rfl,hk6⟩;exact ⟨congrArg (fun b=>Ending.returned (Value.bool b)) (decide_eq_true rfl),((hk0.tr k03).tr hk4).tr (hk5.tr hk6)⟩
end
end Go.Proofs.YtmlnlmkmpgkekaaGreat
namespace Go.Wx
open Go.ChangeShapes Go.WideShapes Go.ChangeAt Go.RowKit
theorem le' {H:Type} {enc:TypeId × Value -> H} {P:Program} (hl:laidOutB P = true) {W W':World} (hb:Below W.heap.size W W') :
  ∀ (ts:List TypeId) (vs:List Value) (ds:List (DataW H)) (ps:List MemPlace),(ts.all fun t=>P.readableRec t && Nat.blt t P.types.size) = true -> DataW.TrodAll enc P W 0 (fun _=>true) true ts vs ds ps ->
   (∀ x ∈ ps,x.block < W.heap.size) -> ∀ sp:Nat -> Bool,(∀ p ∈ ps,sp p.block = true) -> DataW.TrodAll enc P W' 0 sp true ts vs ds ps
 | [],vs,ds,ps,_,h,_,sp,_=>by
  obtain ⟨rfl,rfl,rfl⟩:=trodAll_nil h
  rfl
 | t :: ts,vs,ds,ps,hts,h,hlt,sp,hsp=>by
  obtain ⟨v,vs',d,ds',p,q,rfl,rfl,rfl,h0,h1⟩:=trodAll_cons h;simp only [List.all_cons,Bool.and_eq_true] at hts;refine ⟨p,q,?_,le' hl hb ts _ _ _ hts.2 h1 (fun x hx=>hlt x (by simp [hx])) sp (fun x hx=>hsp x (by simp [hx])),rfl⟩;exact WideElems.Trod_stays hl hts.1.1 (by simpa [Nat.blt_eq] using hts.1.2) h0 (fun x hx=>hb.same (hlt x (by simp [hx]))) (fun x hx=>hsp x (by simp [hx]))
theorem qI' {H:Type} {enc:TypeId × Value -> H} {P:Program} {f:Func} {s:ChangeSpec} {apart fresh handsOn:Bool} {W W':World} {args:Array Value} {ds gs:List (DataW H)} {before:List MemPlace} {tb:TypeId}
  (hl:laidOutB P = true) (hts:(f.params.toList.all fun t=>P.readableRec t && Nat.blt t P.types.size) = true) (hrt:f.resultTypes = #[tb]) (hb:P.underlying tb = some .bool)
  (hW:DataW.Whole enc P f.params.toList s.vars apart W args.toList ds gs before) (hs:s.vars = []) (hres:(s.fn H ds).results = [.lit (.bool true)]) (hargs:(s.fn H ds).args = ds) (hvars:(s.fn H ds).vars = [])
  (hk:Kp [] W W'):s.post enc P f apart fresh handsOn false W args (.bool true) W':=by
 have hW':=hW;obtain ⟨p,q,hA,hV,rfl,hfz,hnd⟩:=hW;rw [hs] at hV;obtain ⟨rfl,rfl⟩:=trodVars_none hV;have hbl:=hk.below;have hlt:∀ x ∈ p,x.block < W.heap.size:=fun x hx=>hW'.lt x (by simp [hx]);refine ⟨ds,[],p ++ [],[],p,[],hW',?_,?_,?_,?_,fun h=>by cases h⟩
 ·rw [JD,hres,hrt]
  exact trodAll_mk1 (shut_bool hb true)
 ·rw [JD,hargs]
  exact le' hl hbl _ _ _ _ hts hA hlt _ fun x hx=>by simpa using hlt x hx
 ·rw [JD,hvars,hs]
  rfl
 ·exact hbl.frame _
end Go.Wx
namespace Go.Proofs.YtmlnlmkmpgkekaaGreat
open Go.Wx Go.ChangeShapes Go.WideShapes Go.ChangeAt Go.RowKit
theorem sy' {H:Type} (d:DataW H):1 <= Rows.uptoBulk d:=by
 cases d with
 | lit l=>cases l <;> simp [Rows.uptoBulk]
 | nil=>simp [Rows.uptoBulk]
 | ptr d=>simp [Rows.uptoBulk]
 | slice elems spare=>simp [Rows.uptoBulk]
 | agg parts=>simp [Rows.uptoBulk]
 | iface t d=>simp [Rows.uptoBulk]
 | map entries=>simp [Rows.uptoBulk]
 | held h=>simp [Rows.uptoBulk]
theorem lf' {H:Type} {d:DataW H} {l:List (DataW H)} (h:d ∈ l):Rows.uptoBulk d <= Rows.uptoBulkAll l:=by
 induction l with
 | nil=>cases h
 | cons x r ih =>
  simp only [Rows.uptoBulkAll];cases List.mem_cons.1 h with
  | inl e=>subst e; omega
  | inr e=>have:=ih e; omega
theorem sA' {H:Type} (l:List (DataW H)):l.length <= Rows.uptoBulkAll l:=by
 induction l with
 | nil=>simp [Rows.uptoBulkAll]
 | cons x r ih=>have:=sy' x; simp only [Rows.uptoBulkAll,JV]; omega
theorem uC' {H:Type} {l:List (DataW H)} (hk:Rows.uptoSmall H l = true):Rows.uptoBulkAll l <= 1048576:=of_decide_eq_true hk
theorem sB' {H:Type} (l r:List (DataW H)):Rows.uptoBulkAll (l ++ r) = Rows.uptoBulkAll l + Rows.uptoBulkAll r:=by
 induction l with
 | nil=>simp [Rows.uptoBulkAll]
 | cons x l ih=>simp only [List.cons_append,Rows.uptoBulkAll,ih]; omega
section
variable {H:Type} {enc:TypeId × Value -> H} {w:World} {spare:Nat -> Bool} {held:Bool}
theorem mg' {a:Addr} {v:Value} (h:w.cell? a = some v):∃ b o,a = ⟨b,o,none⟩:=by
 obtain ⟨b,o,s⟩:=a;unfold World.cell? at h;split at h
 ·rename_i c T fz hb
  cases s with
  | none=>exact ⟨b,o,rfl⟩
  | some _=>simp at h
 ·cases h
theorem sC' {α:Type} [Inhabited α] {t e:TypeId} (R:Rd α) (hk:0 < R.sz) (ht:Tryz.prog.underlying t = some (.slice e)) (hc:Tryz.prog.cellsOf e = R.sz) (ok:DataW H -> Prop)
  (one:∀ (cs:List Value) (n:Nat) (y:DataW H × List MemPlace),cs.length = R.sz -> DataW.trod enc Tryz.prog w 0 spare held n e cs = some y -> ok y.1 -> ∃ x:α,R.den (Old w) cs x)
  {fuel:Nat} {v:Value} {x:DataW H × List MemPlace} (h:DataW.trod enc Tryz.prog w 0 spare held fuel t [v] = some x) (hok:∀ es sp,x.1 = .slice es sp -> ∀ d ∈ es,ok d) :
  ∃ (a:Option Addr) (l:List α) (cap:Nat),v = .slice a l.length cap /\ (l.length <= 1099511627776 -> Sl R (Old w) a l) /\ (l.length = 0 \/ ∃ es sp,x.1 = .slice es sp /\ es.length = l.length):=by
 rcases Go.Deep.open_slice ht h with ⟨h1,rfl⟩ | ⟨a,len,cap,m,n,D,Pl,h1,hb,hl,hm,hmm,rfl,hx⟩
 ·simp only [List.cons.injEq,and_true] at h1
  subst h1;exact ⟨none,[],0,rfl,fun _=>Sl.nil _ _ _,.inl rfl⟩
 simp only [List.cons.injEq,and_true] at h1;subst h1;have hlm:len <= m:=by rw [hmm]; split <;> omega
 rw [hc] at hx;have each:∀ i,i < len -> ∃ q:α × List Value,R.den (Old w) q.2 q.1 /\ ∀ j u,q.2[j]? = some u -> w.cell? (a.add (i * R.sz + j)) = some u:=by
  intro i hi;obtain ⟨cs',h1,h2⟩:=hx i (by omega);obtain ⟨_,hlen,hcell⟩:=World.cells?_some h1;obtain ⟨x,hx⟩:=one cs' n _ hlen h2 (hok _ _ rfl _ (List.mem_map.2 ⟨i,by simpa using hi,rfl⟩));refine ⟨(x,cs'),hx,fun j u hu=>?_⟩;have hj:j < R.sz:=by rw [<- hlen]; exact ai' hu
  rw [<- Go.Deep.add_add,hcell j hj];exact hu
 obtain ⟨q,hq⟩:=Go.Deep.choose_lt each;refine ⟨some a,(List.range len).map fun i=>(q i).1,cap,by simp,fun hbig=>⟨hbig,?_⟩,.inr ⟨_,_,rfl,by simp⟩⟩
 by_cases h0:len = 0
 ·exact .inl (by simp [h0])
 obtain ⟨hd0,hz⟩:=hq 0 (by omega);have hl0:=R.len hd0;obtain ⟨u0,hu0⟩:∃ u,(q 0).2[0]? = some u:=⟨(q 0).2[0]'(by omega),by simp⟩
 have hz0:=hz 0 u0 hu0;rw [Nat.zero_mul,Nat.add_zero] at hz0;have hz':w.cell? a = some u0:=by simpa [Addr.add] using hz0
 obtain ⟨b,o,rfl⟩:=mg' hz';refine .inr ⟨b,o,rfl,fun i x hi=>?_⟩;rw [JX] at hi;have hil:i < len:=by
  rcases Nat.lt_or_ge i len with h | h
  ·exact h
  ·rw [List.getElem?_eq_none (by simpa using h)] at hi; cases hi
 rw [List.getElem?_range hil] at hi;have hi:=JB hi;subst hi;obtain ⟨hdi,hci⟩:=hq i hil;refine ⟨(q i).2,hdi,fun j u hj=>Cl.of ?_⟩;have:=hci j u hj;rw [db'] at this;rw [Nat.add_assoc];exact this
theorem uD' {α:Type} [Inhabited α] {t e:TypeId} (R:Rd α) (hk:0 < R.sz) (ht:Tryz.prog.underlying t = some (.slice e)) (hc:Tryz.prog.cellsOf e = R.sz)
  (one:∀ (cs:List Value) (n:Nat) (y:DataW H × List MemPlace),cs.length = R.sz -> DataW.trod enc Tryz.prog w 0 spare held n e cs = some y -> Rows.uptoBulk y.1 <= 1048576 -> ∃ x:α,R.den (Old w) cs x)
  {fuel:Nat} {v:Value} {x:DataW H × List MemPlace} (h:DataW.trod enc Tryz.prog w 0 spare held fuel t [v] = some x) (hB:Rows.uptoBulk x.1 <= 1048576):∃ l,(rSl R).den (Old w) [v] l:=by
 obtain ⟨a,l,cap,h1,h2,h3⟩:=sC' R hk ht hc (fun d=>Rows.uptoBulk d <= 1048576) one h (fun es sp e d hd=>by
  rw [e] at hB;have:=lf' hd;simp only [Rows.uptoBulk] at hB;omega)
 refine ⟨l,a,cap,by rw [h1],h2 ?_⟩;rcases h3 with h3 | ⟨es,sp,e,hl⟩
 ·omega
 ·rw [e] at hB
  have:=sA' es;simp only [Rows.uptoBulk] at hB;omega
end
end Go.Proofs.YtmlnlmkmpgkekaaGreat
namespace Go.Proofs.YtmlnlmkmpgkekaaGreat
open Go.Wx Cd Tm Lv Go.ChangeShapes Go.WideShapes Go.ChangeAt Go.RowKit
section
variable {H:Type} {enc:TypeId × Value -> H} {w:World} {spare:Nat -> Bool} {held:Bool}
theorem oe' {v:Value} {r:Reach} {b0:Nat} {d:DataW H} {ps:List MemPlace} (hval:Value.okWide Tryz.prog w r b0 40 v) (h:DataW.Trod enc Tryz.prog w 0 spare held 40 v d ps) (hB:Rows.uptoBulk d <= 1048576) :
  ∃ (a:Option Addr) (l:List Nat) (cap:Nat),v = .slice a l.length cap /\ Sl rU8 (Old w) a l:=by
 obtain ⟨fuel,hf⟩:=h;have go:∀ u,DataW.trod enc Tryz.prog w 0 spare held fuel 40 [u] = some (d,ps) -> ∃ (a:Option Addr) (l:List Nat) (cap:Nat),u = .slice a l.length cap /\ Sl rU8 (Old w) a l:=fun u hu=>by
  obtain ⟨l,a,cap,e,hs⟩:=uD' rU8 Nat.one_pos Tryz.underlying40 (by kernel_rfl) (fun cs n y hl hn _=>by
   obtain ⟨z,rfl,rfl,hw⟩:=DataW.trod_int Tryz.underlying5 hn;have hb:0 <= z /\ z <= 255:=by simpa [Lit.wf,IntKind.min,IntKind.max,IntKind.signed,IntKind.bits] using hw
   exact ⟨z.toNat,by show [Value.int .u8 z] = [Value.int .u8 ((z.toNat:Nat):Int)] /\ _; rw [Int.toNat_of_nonneg hb.1]; exact ⟨rfl,by omega⟩⟩) hu hB
  exact ⟨a,l,cap,by simpa using e,hs⟩
 cases v <;> first | exact go _ hf | (exfalso; simp [Value.okWide,Tryz.underlying40,Cell.okWide,Cell.ok] at hval)
end
end Go.Proofs.YtmlnlmkmpgkekaaGreat
