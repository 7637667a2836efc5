import Derived.Test.YtmlnlmkmpgkekaaGreatMx25
import Derived.Test.YtmlnlmkmpgkekaaGreatRows
import Derived.ProofKit
import Derived.OpenShut
import Derived.Deep.Slices
import Derived.JoinedCond
set_option linter.unusedVariables false
set_option linter.unusedSimpArgs false
set_option maxRecDepth 100000
set_option maxHeartbeats 4000000
namespace Go.Proofs.YtmlnlmkmpgkekaaGreat
open Go.Wx Cd Tm Lv
theorem rp' {B:BoT} {c:CxR} {t:List Nd} {f:Int} {er:Int} (h:eD' B c t f = .error er):er ≠ 0:=by
 unfold eD' at h;split at h
 ·rename_i g
  injection h with h
  rw [<- h];exact g
 ·rename_i g
  obtain ⟨hB,_⟩:=cz' (Decidable.not_not.1 g);exact tU' hB _ _ _ _ _ h
theorem wN' {w:World} {b T:Nat} {x:CeT} {v1 v2 v3 vc vt:Value} (h:Bk w.heap b [.int .i64 x.book.vars,v1,v2,.int .i64 x.book.nat,v3,vc,vt,.int .i64 x.fuel] T):∀ j u,[Value.int .i64 x.book.vars,v1,v2,.int .i64 x.book.nat,v3][j]? = some u -> Cl w.heap b (0 + j) u:=fun j u hj=>by
 refine h.cl ?_;rw [KW]
 match j,hj with
 | 0,hj=>exact hj
 | 1,hj=>exact hj
 | 2,hj=>exact hj
 | 3,hj=>exact hj
 | 4,hj=>exact hj
 | j + 5,hj=>cases hj
section
variable {w:World} {x:CeT}
end
theorem il' {B:BoT} {c:CxR} {t:List Nd} {f:Int} {er:Int} (h:gq' B c t f = .error er):er ≠ 0:=by
 unfold gq' at h;split at h
 ·rename_i g
  injection h with h
  rw [<- h];exact g
 ·rename_i g
  obtain ⟨hB,_⟩:=cz' (Decidable.not_not.1 g);exact cy' (aB' hB GJ) h
theorem jc' (x y:Operand) (p q:Nd) (h:¬ p = q) (w:World):(do eqGuard .eql 42 x y (.agg #[.int .i64 p.op,.int .i64 p.a,.int .i64 p.b]) (.agg #[.int .i64 q.op,.int .i64 q.a,.int .i64 q.b]); binOp .eql 42 (.agg #[.int .i64 p.op,.int .i64 p.a,.int .i64 p.b]) (.agg #[.int .i64 q.op,.int .i64 q.a,.int .i64 q.b]):Sem Value).run Tryz.prog w = .ok (.bool false) w:=by
 rw [eh',decide_eq_false h]
section
variable {w:World} {x:CeT}
theorem kh' {v:Value} (hv:CeV (Im [] w) x v) :
  CC 5 #[v] w (fun e w'=>e = .returned (.bool true) /\ Kp [] w w'):=by
 refine oF Tryz.func5 ?_;have hvv:=hv;obtain ⟨v1,v2,v3,vc,vt,rfl,hO,hE,hP,hC,hT,hf⟩:=hv;obtain ⟨ac,cc,rfl,_,_⟩:=id hC;obtain ⟨at_,ct_,rfl,ht1,_⟩:=id hT;have hbo:BoV (Im [] w) x.book (.agg #[.int .i64 x.book.vars,v1,v2,.int .i64 x.book.nat,v3]):=⟨v1,v2,v3,rfl,hO,hE,hP⟩
 refine cO (args:=[_]) 150 [.tmp 2] τok Tryz.func5 ?_;refine new fun b2 w1 hb2 h2 hs1 hk1=>?_;have h2:Bk w1.heap b2 [.int .i64 x.book.vars,v1,v2,.int .i64 x.book.nat,v3,.slice ac x.ctx.length cc,.slice at_ x.term.length ct_,.int .i64 x.fuel] 31:=h2;refine ab' (rn' w1) ?_;rintro e w2 ⟨rfl,hk2⟩;have k02:=hk1.tr hk2;have h2:=h2.kp hk2 (by simp);refine ldN [.int .i64 x.book.vars,v1,v2,.int .i64 x.book.nat,v3,.slice ac x.ctx.length cc,.slice at_ x.term.length ct_,.int .i64 x.fuel] rfl (bZ h2) ?_;refine ab' (rg' (C:=Im [] w) ((Im.sub [] w).tr k02) hvv) ?_;rintro e w3 ⟨rfl,hk3⟩;have k03:=k02.tr hk3;have h2:=h2.kp hk3 (by simp);have up3:∀ b o v,Im [] w b o v -> Im [] w3 b o v:=fun b o v h=>h.tr k03;cases hh:ii' x with
 | true=>exact ⟨rfl,k03⟩
 | false =>
  have hf3:x.fuel <= 3000:=by
   unfold ii' at hh;simp only [Bool.or_eq_false_iff,decide_eq_false_iff_not] at hh;omega
  refine lb h2 ?_;refine ac' (fun g1=>?_) (fun g1=>?_)
  ·exact ⟨rfl,k03⟩
  have g1:¬ x.fuel < 0:=g1;refine ldN [.int .i64 x.book.vars,v1,v2,.int .i64 x.book.nat,v3] rfl (wN' h2) ?_;refine lb h2 ?_;refine lb h2 ?_;refine lb h2 ?_;refine ab' (ka' (X:=[]) (B:=x.book) (c:=x.ctx) (t:=x.term) (fuel:=x.fuel) (by simp) (hbo.mono up3) (hC.mono up3) (hT.mono up3)) ?_;rintro e w4 ⟨he,hk4⟩;have k04:=k03.tr hk4;cases hr:eD' x.book x.ctx x.term x.fuel with
  | error er =>
   rw [hr] at he;obtain rfl:=he;refine as' (p:=er ≠ 0) (rp' hr) ?_;exact ⟨rfl,k04⟩
  | ok q =>
   obtain ⟨r,n⟩:=q;obtain ⟨hte,ty,n1,z,n2,hty,hwz,hl2,hl0,hl9⟩:=ro' (by omega) hf3 hr;rw [hr] at he;obtain ⟨u,rfl,hu⟩:=he;obtain ⟨au,cu,rfl,hu1,hu2⟩:SV rNd (Im [] w4) r u:=hu;have h2:=h2.kp hk4 (by simp);have up4:∀ b o v,Im [] w b o v -> Im [] w4 b o v:=fun b o v h=>h.tr k04;refine ldN [.int .i64 x.book.vars,v1,v2,.int .i64 x.book.nat,v3] rfl (wN' h2) ?_;refine lb h2 ?_;refine lb h2 ?_;refine lb h2 ?_;refine ab' (sW' (X:=[]) (B:=x.book) (c:=x.ctx) (t:=x.term) (fuel:=x.fuel) (by simp) (hbo.mono up4) (hC.mono up4) (hT.mono up4)) ?_;rintro e w5 ⟨he,hk5⟩;have k05:=k04.tr hk5;rw [hty] at he;obtain ⟨u5,rfl,hu5⟩:=he;simp only at hu5;obtain ⟨a5,c5,rfl,_,_⟩:=id hu5;have h2:=h2.kp hk5 (by simp);have up5:∀ b o v,Im [] w b o v -> Im [] w5 b o v:=fun b o v h=>h.tr k05;refine ldN [.int .i64 x.book.vars,v1,v2,.int .i64 x.book.nat,v3] rfl (wN' h2) ?_;refine lb h2 ?_;refine lb h2 ?_;refine ab' (sY' (X:=[]) (B:=x.book) (c:=x.ctx) (t:=row ty) (fuel:=x.fuel) (by simp) (hbo.mono up5) (hC.mono up5) hu5) ?_;rintro e w6 ⟨he,hk6⟩;have k06:=k05.tr hk6;rw [hwz] at he;obtain ⟨u6,rfl,hu6⟩:=he;simp only at hu6;obtain ⟨b6,o6,c6,rfl,_,_,_,hc6⟩:=hu6.hd;have h2:=h2.kp hk6 (by simp);have up6:∀ b o v,Im [] w b o v -> Im [] w6 b o v:=fun b o v h=>h.tr k06;refine ldN [.int .i64 x.book.vars,v1,v2,.int .i64 x.book.nat,v3] rfl (wN' h2) ?_;refine lb h2 ?_;refine lb h2 ?_;refine ab' (sX' (X:=[]) (B:=x.book) (c:=x.ctx) (t:=row ty) (fuel:=x.fuel) (by simp) (hbo.mono up6) (hC.mono up6) (hu5.mono fun _ _ _ h=>h.tr hk6)) ?_;rintro e w7 ⟨he,hk7⟩;have k07:=k06.tr hk7;have k47:=(hk5.tr hk6).tr hk7;have h2:=h2.kp hk7 (by simp);have hzc:Cl w7.heap b6 (o6 + 0 * 3 + 0) (.int .i64 z.n.op):=(by simpa using hc6 0 _ rfl:Im [] w6 b6 (o6 + 0 * 3 + 0) (.int .i64 z.n.op)).1.kp hk7 (by simp);have htl:0 < x.term.length:=by rw [hte]; exact ag' _
   have ht0:x.term[0]? = some (tr x.term).n:=by
    conv=>lhs; rw [hte]
    cases hx:tr x.term with
    | mk n ks=>rfl
   obtain ⟨bt,ot,hat,_,_,_,htc⟩:=de' ht1 ht0;subst hat;have htc:Cl w7.heap bt (ot + 0 * 3 + 0) (.int .i64 (tr x.term).n.op):=(htc 0 _ rfl).1.kp k07 (by simp)
   by_cases hbx:r = lw'
   ·subst hbx
    obtain ⟨br,or,rfl,_,_,_,hcr⟩:=de' hu1 (i:=0) (x:=⟨22,0,0⟩) rfl;cases hs:gq' x.book x.ctx (row ty) x.fuel with
    | error er =>
     rw [hs] at he;obtain rfl:=he;have her:=il' hs;refine ix 0 rfl (by decide) ?_;refine ldN [.int .i64 22,.int .i64 0,.int .i64 0] rfl (fun j u hj=>(hcr j u hj).1.kp k47 (by simp)) ?_;refine run (ih' _ _ ⟨22,0,0⟩ ⟨22,0,0⟩ rfl _) ?_;refine aU' (p:=((row z).length:Int) = 0) (by have:=ag' z; omega) ?_;refine ix 0 rfl (ag' _) ?_;refine ld (Cl.cell hzc) ?_;refine ac' (fun g=>⟨rfl,k07⟩) (fun g=>?_)
     conv=>whnf
     refine aU' (p:=er = 0) her ?_;refine lb h2 ?_;refine ix 0 rfl htl ?_;refine ld (Cl.cell htc) ?_;refine ix 0 rfl (ag' _) ?_;refine ld (Cl.cell hzc) ?_;refine ac' (fun g=>⟨rfl,k07⟩) (fun g=>?_);refine as' (p:=er ≠ 0) her ?_;exact ⟨rfl,k07⟩
    | ok q =>
     rw [hs] at he;obtain ⟨a7,c7,rfl,_⟩:=he;refine ix 0 rfl (by decide) ?_;refine ldN [.int .i64 22,.int .i64 0,.int .i64 0] rfl (fun j u hj=>(hcr j u hj).1.kp k47 (by simp)) ?_;refine run (ih' _ _ ⟨22,0,0⟩ ⟨22,0,0⟩ rfl _) ?_;refine aU' (p:=((row z).length:Int) = 0) (by have:=ag' z; omega) ?_;refine ix 0 rfl (ag' _) ?_;refine ld (Cl.cell hzc) ?_;refine ac' (fun g=>⟨rfl,k07⟩) (fun g=>?_)
     conv=>whnf
     refine ac' (fun g=>⟨rfl,k07⟩) (fun g0=>?_);refine lb h2 ?_;refine ix 0 rfl htl ?_;refine ld (Cl.cell htc) ?_;refine ix 0 rfl (ag' _) ?_;refine ld (Cl.cell hzc) ?_;refine ac' (fun g=>⟨rfl,k07⟩) (fun g9=>?_);have g9:¬ z.n.op ≠ 9:=g9;have g0:¬ q.1.1 = 0:=g0;have hno:∀ k:Int,k = 1 \/ k = 8 \/ k = 10 \/ k = 6 -> (tr x.term).n.op ≠ k:=fun k hk e=>hl9 q hs g0 (by omega) (by rw [e]; exact hk) rfl;refine as' (p:=(tr x.term).n.op ≠ 1) (hno 1 (by decide)) ?_;refine as' (p:=(tr x.term).n.op ≠ 8) (hno 8 (by decide)) ?_;refine as' (p:=(tr x.term).n.op ≠ 10) (hno 10 (by decide)) ?_;exact ⟨congrArg (fun b=>Ending.returned (Value.bool b)) (decide_eq_true (hno 6 (by decide))),k07⟩
   ·by_cases hl1:r.length = 1
    ·obtain ⟨m,rfl⟩:∃ m,r = [m]:=by
      match r,hl1 with
      | [m],_=>exact ⟨m,rfl⟩
     have hm:¬ m = ⟨22,0,0⟩:=fun e=>hbx (by rw [e]; rfl);obtain ⟨br,or,rfl,_,_,_,hcr⟩:=de' hu1 (i:=0) (x:=m) rfl;cases hs:gq' x.book x.ctx (row ty) x.fuel with
     | error er =>
      rw [hs] at he;obtain rfl:=he;have her:=il' hs;refine ix 0 rfl (by simp) ?_;refine ldN [.int .i64 m.op,.int .i64 m.a,.int .i64 m.b] rfl (fun j u hj=>(hcr j u hj).1.kp k47 (by simp)) ?_;refine run (jc' _ _ m ⟨22,0,0⟩ hm _) ?_;refine aU' (p:=((row z).length:Int) = 0) (by have:=ag' z; omega) ?_;refine ix 0 rfl (ag' _) ?_;refine ld (Cl.cell hzc) ?_;refine ac' (fun g=>absurd (hl2 g) hbx) (fun g=>?_)
      conv=>whnf
      refine aU' (p:=er = 0) her ?_;refine lb h2 ?_;refine ix 0 rfl htl ?_;refine ld (Cl.cell htc) ?_;refine ix 0 rfl (ag' _) ?_;refine ld (Cl.cell hzc) ?_;refine ac' (fun g=>⟨rfl,k07⟩) (fun g=>?_);refine as' (p:=er ≠ 0) her ?_;exact ⟨rfl,k07⟩
     | ok q =>
      rw [hs] at he;obtain ⟨a7,c7,rfl,_⟩:=he;refine ix 0 rfl (by simp) ?_;refine ldN [.int .i64 m.op,.int .i64 m.a,.int .i64 m.b] rfl (fun j u hj=>(hcr j u hj).1.kp k47 (by simp)) ?_;refine run (jc' _ _ m ⟨22,0,0⟩ hm _) ?_;refine aU' (p:=((row z).length:Int) = 0) (by have:=ag' z; omega) ?_;refine ix 0 rfl (ag' _) ?_;refine ld (Cl.cell hzc) ?_;refine ac' (fun g=>absurd (hl2 g) hbx) (fun g=>?_)
      conv=>whnf
      refine ac' (fun g=>absurd (hl0 q hs g) hbx) (fun g0=>?_);refine lb h2 ?_;refine ix 0 rfl htl ?_;refine ld (Cl.cell htc) ?_;refine ix 0 rfl (ag' _) ?_;refine ld (Cl.cell hzc) ?_;refine ac' (fun g=>⟨rfl,k07⟩) (fun g9=>?_);exact ⟨rfl,k07⟩
    ·skip
     cases hs:gq' x.book x.ctx (row ty) x.fuel with
     | error er =>
      rw [hs] at he;obtain rfl:=he;have her:=il' hs;refine aU' (p:=(r.length:Int) = 1) (by omega) ?_;refine aU' (p:=((row z).length:Int) = 0) (by have:=ag' z; omega) ?_;refine ix 0 rfl (ag' _) ?_;refine ld (Cl.cell hzc) ?_;refine ac' (fun g=>absurd (hl2 g) hbx) (fun g=>?_)
      conv=>whnf
      refine aU' (p:=er = 0) her ?_;refine lb h2 ?_;refine ix 0 rfl htl ?_;refine ld (Cl.cell htc) ?_;refine ix 0 rfl (ag' _) ?_;refine ld (Cl.cell hzc) ?_;refine ac' (fun g=>⟨rfl,k07⟩) (fun g=>?_);refine as' (p:=er ≠ 0) her ?_;exact ⟨rfl,k07⟩
     | ok q =>
      rw [hs] at he;obtain ⟨a7,c7,rfl,_⟩:=he;refine aU' (p:=(r.length:Int) = 1) (by omega) ?_;refine aU' (p:=((row z).length:Int) = 0) (by have:=ag' z; omega) ?_;refine ix 0 rfl (ag' _) ?_;refine ld (Cl.cell hzc) ?_;refine ac' (fun g=>absurd (hl2 g) hbx) (fun g=>?_)
      conv=>whnf
      refine ac' (fun g=>absurd (hl0 q hs g) hbx) (fun g0=>?_);refine lb h2 ?_;refine ix 0 rfl htl ?_;refine ld (Cl.cell htc) ?_;refine ix 0 rfl (ag' _) ?_;refine ld (Cl.cell hzc) ?_;refine ac' (fun g=>⟨rfl,k07⟩) (fun g9=>?_);exact ⟨rfl,k07⟩
end
end Go.Proofs.YtmlnlmkmpgkekaaGreat
namespace Go.Wx
open Go.ChangeShapes Go.WideShapes Go.ChangeAt Go.RowKit
theorem lJ' {H:Type} {enc:TypeId × Value -> H} {P:Program} (hl:laidOutB P = true) {W W':World} (hb:Below W.heap.size W W') :
  ∀ (ts:List TypeId) (vs:List Value) (ds:List (DataW H)) (ps:List MemPlace),(ts.all fun t=>P.readableRec t && Nat.blt t P.types.size) = true -> DataW.TrodAll enc P W 0 (fun _=>true) true ts vs ds ps ->
   (∀ x ∈ ps,x.block < W.heap.size) -> ∀ sp:Nat -> Bool,(∀ p ∈ ps,sp p.block = true) -> DataW.TrodAll enc P W' 0 sp true ts vs ds ps
 | [],vs,ds,ps,_,h,_,sp,_=>by
  obtain ⟨rfl,rfl,rfl⟩:=trodAll_nil h
  rfl
 | t :: ts,vs,ds,ps,hts,h,hlt,sp,hsp=>by
  obtain ⟨v,vs',d,ds',p,q,rfl,rfl,rfl,h0,h1⟩:=trodAll_cons h;simp only [List.all_cons,Bool.and_eq_true] at hts;refine ⟨p,q,?_,lJ' hl hb ts _ _ _ hts.2 h1 (fun x hx=>hlt x (by simp [hx])) sp (fun x hx=>hsp x (by simp [hx])),rfl⟩;exact WideElems.Trod_stays hl hts.1.1 (by simpa [Nat.blt_eq] using hts.1.2) h0 (fun x hx=>hb.same (hlt x (by simp [hx]))) (fun x hx=>hsp x (by simp [hx]))
theorem rq' {H:Type} {enc:TypeId × Value -> H} {P:Program} {f:Func} {s:ChangeSpec} {apart fresh handsOn:Bool} {W W':World} {args:Array Value} {ds gs:List (DataW H)} {before:List MemPlace} {tb:TypeId}
  (hl:laidOutB P = true) (hts:(f.params.toList.all fun t=>P.readableRec t && Nat.blt t P.types.size) = true) (hrt:f.resultTypes = #[tb]) (hb:P.underlying tb = some .bool)
  (hW:DataW.Whole enc P f.params.toList s.vars apart W args.toList ds gs before) (hs:s.vars = []) (hres:(s.fn H ds).results = [.lit (.bool true)]) (hargs:(s.fn H ds).args = ds) (hvars:(s.fn H ds).vars = [])
  (hk:Kp [] W W'):s.post enc P f apart fresh handsOn false W args (.bool true) W':=by
 have hW':=hW;obtain ⟨p,q,hA,hV,rfl,hfz,hnd⟩:=hW;rw [hs] at hV;obtain ⟨rfl,rfl⟩:=trodVars_none hV;have hbl:=hk.below;have hlt:∀ x ∈ p,x.block < W.heap.size:=fun x hx=>hW'.lt x (by simp [hx]);refine ⟨ds,[],p ++ [],[],p,[],hW',?_,?_,?_,?_,fun h=>by cases h⟩
 ·rw [JD,hres,hrt]
  exact trodAll_mk1 (shut_bool hb true)
 ·rw [JD,hargs]
  exact lJ' hl hbl _ _ _ _ hts hA hlt _ fun x hx=>by simpa using hlt x hx
 ·rw [JD,hvars,hs]
  rfl
 ·exact hbl.frame _
end Go.Wx
namespace Go.Proofs.YtmlnlmkmpgkekaaGreat
open Go.Wx Go.ChangeShapes Go.WideShapes Go.ChangeAt Go.RowKit
theorem tk' {H:Type} (d:DataW H):1 <= Rows.uptoBulk d:=by
 cases d with
 | lit l=>cases l <;> simp [Rows.uptoBulk]
 | nil=>simp [Rows.uptoBulk]
 | ptr d=>simp [Rows.uptoBulk]
 | slice elems spare=>simp [Rows.uptoBulk]
 | agg parts=>simp [Rows.uptoBulk]
 | iface t d=>simp [Rows.uptoBulk]
 | map entries=>simp [Rows.uptoBulk]
 | held h=>simp [Rows.uptoBulk]
theorem im' {H:Type} {d:DataW H} {l:List (DataW H)} (h:d ∈ l):Rows.uptoBulk d <= Rows.uptoBulkAll l:=by
 induction l with
 | nil=>cases h
 | cons x r ih =>
  simp only [Rows.uptoBulkAll];cases List.mem_cons.1 h with
  | inl e=>subst e; omega
  | inr e=>have:=ih e; omega
theorem tl' {H:Type} (l:List (DataW H)):l.length <= Rows.uptoBulkAll l:=by
 induction l with
 | nil=>simp [Rows.uptoBulkAll]
 | cons x r ih=>have:=tk' x; simp only [Rows.uptoBulkAll,JV]; omega
theorem vu' {H:Type} {l:List (DataW H)} (hk:Rows.uptoSmall H l = true):Rows.uptoBulkAll l <= 1048576:=of_decide_eq_true hk
theorem tm' {H:Type} (l r:List (DataW H)):Rows.uptoBulkAll (l ++ r) = Rows.uptoBulkAll l + Rows.uptoBulkAll r:=by
 induction l with
 | nil=>simp [Rows.uptoBulkAll]
 | cons x l ih=>simp only [List.cons_append,Rows.uptoBulkAll,ih]; omega
theorem aP' {H:Type} {xs:List (DataW H × List MemPlace)} {x:DataW H × List MemPlace} (hx:x ∈ xs) (hB:Rows.uptoBulk (.agg (xs.map (·.1))) <= 1048576):Rows.uptoBulk x.1 <= 1048576:=by
 have:=im' (List.mem_map_of_mem (f:=(·.1)) hx);simp only [Rows.uptoBulk] at hB;omega
section
variable {H:Type} {enc:TypeId × Value -> H} {w:World} {spare:Nat -> Bool} {held:Bool}
theorem mI' {a:Addr} {v:Value} (h:w.cell? a = some v):∃ b o,a = ⟨b,o,none⟩:=by
 obtain ⟨b,o,s⟩:=a;unfold World.cell? at h;split at h
 ·rename_i c T fz hb
  cases s with
  | none=>exact ⟨b,o,rfl⟩
  | some _=>simp at h
 ·cases h
theorem tn' {α:Type} [Inhabited α] {t e:TypeId} (R:Rd α) (hk:0 < R.sz) (ht:Tryz.prog.underlying t = some (.slice e)) (hc:Tryz.prog.cellsOf e = R.sz) (ok:DataW H -> Prop)
  (one:∀ (cs:List Value) (n:Nat) (y:DataW H × List MemPlace),cs.length = R.sz -> DataW.trod enc Tryz.prog w 0 spare held n e cs = some y -> ok y.1 -> ∃ x:α,R.den (Old w) cs x)
  {fuel:Nat} {v:Value} {x:DataW H × List MemPlace} (h:DataW.trod enc Tryz.prog w 0 spare held fuel t [v] = some x) (hok:∀ es sp,x.1 = .slice es sp -> ∀ d ∈ es,ok d) :
  ∃ (a:Option Addr) (l:List α) (cap:Nat),v = .slice a l.length cap /\ (l.length <= 1099511627776 -> Sl R (Old w) a l) /\ (l.length = 0 \/ ∃ es sp,x.1 = .slice es sp /\ es.length = l.length):=by
 rcases Go.Deep.open_slice ht h with ⟨h1,rfl⟩ | ⟨a,len,cap,m,n,D,Pl,h1,hb,hl,hm,hmm,rfl,hx⟩
 ·simp only [List.cons.injEq,and_true] at h1
  subst h1;exact ⟨none,[],0,rfl,fun _=>Sl.nil _ _ _,.inl rfl⟩
 simp only [List.cons.injEq,and_true] at h1;subst h1;have hlm:len <= m:=by rw [hmm]; split <;> omega
 rw [hc] at hx;have each:∀ i,i < len -> ∃ q:α × List Value,R.den (Old w) q.2 q.1 /\ ∀ j u,q.2[j]? = some u -> w.cell? (a.add (i * R.sz + j)) = some u:=by
  intro i hi;obtain ⟨cs',h1,h2⟩:=hx i (by omega);obtain ⟨_,hlen,hcell⟩:=World.cells?_some h1;obtain ⟨x,hx⟩:=one cs' n _ hlen h2 (hok _ _ rfl _ (List.mem_map.2 ⟨i,by simpa using hi,rfl⟩));refine ⟨(x,cs'),hx,fun j u hu=>?_⟩;have hj:j < R.sz:=by rw [<- hlen]; exact ai' hu
  rw [<- Go.Deep.add_add,hcell j hj];exact hu
 obtain ⟨q,hq⟩:=Go.Deep.choose_lt each;refine ⟨some a,(List.range len).map fun i=>(q i).1,cap,by simp,fun hbig=>⟨hbig,?_⟩,.inr ⟨_,_,rfl,by simp⟩⟩
 by_cases h0:len = 0
 ·exact .inl (by simp [h0])
 obtain ⟨hd0,hz⟩:=hq 0 (by omega);have hl0:=R.len hd0;obtain ⟨u0,hu0⟩:∃ u,(q 0).2[0]? = some u:=⟨(q 0).2[0]'(by omega),by simp⟩
 have hz0:=hz 0 u0 hu0;rw [Nat.zero_mul,Nat.add_zero] at hz0;have hz':w.cell? a = some u0:=by simpa [Addr.add] using hz0
 obtain ⟨b,o,rfl⟩:=mI' hz';refine .inr ⟨b,o,rfl,fun i x hi=>?_⟩;rw [JX] at hi;have hil:i < len:=by
  rcases Nat.lt_or_ge i len with h | h
  ·exact h
  ·rw [List.getElem?_eq_none (by simpa using h)] at hi; cases hi
 rw [List.getElem?_range hil] at hi;have hi:=JB hi;subst hi;obtain ⟨hdi,hci⟩:=hq i hil;refine ⟨(q i).2,hdi,fun j u hj=>Cl.of ?_⟩;have:=hci j u hj;rw [dp'] at this;rw [Nat.add_assoc];exact this
theorem vv' {α:Type} [Inhabited α] {t e:TypeId} (R:Rd α) (hk:0 < R.sz) (ht:Tryz.prog.underlying t = some (.slice e)) (hc:Tryz.prog.cellsOf e = R.sz)
  (one:∀ (cs:List Value) (n:Nat) (y:DataW H × List MemPlace),cs.length = R.sz -> DataW.trod enc Tryz.prog w 0 spare held n e cs = some y -> Rows.uptoBulk y.1 <= 1048576 -> ∃ x:α,R.den (Old w) cs x)
  {fuel:Nat} {v:Value} {x:DataW H × List MemPlace} (h:DataW.trod enc Tryz.prog w 0 spare held fuel t [v] = some x) (hB:Rows.uptoBulk x.1 <= 1048576):∃ l,(rSl R).den (Old w) [v] l:=by
 obtain ⟨a,l,cap,h1,h2,h3⟩:=tn' R hk ht hc (fun d=>Rows.uptoBulk d <= 1048576) one h (fun es sp e d hd=>by
  rw [e] at hB;have:=im' hd;simp only [Rows.uptoBulk] at hB;omega)
 refine ⟨l,a,cap,by rw [h1],h2 ?_⟩;rcases h3 with h3 | ⟨es,sp,e,hl⟩
 ·omega
 ·rw [e] at hB
  have:=tl' es;simp only [Rows.uptoBulk] at hB;omega
end
end Go.Proofs.YtmlnlmkmpgkekaaGreat
namespace Go.Proofs.YtmlnlmkmpgkekaaGreat
open Go.Wx Cd Tm Lv Go.ChangeShapes Go.WideShapes Go.ChangeAt Go.RowKit
instance:Inhabited Nd:=⟨⟨0,0,0⟩⟩
instance:Inhabited aV':=⟨⟨0,0,0⟩⟩
instance:Inhabited BoT:=⟨⟨0,[],[],-1,[]⟩⟩
section
variable {H:Type} {enc:TypeId × Value -> H} {w:World} {spare:Nat -> Bool} {held:Bool}
theorem vw' {z:Int} (h:(Lit.int .i64 z).wf = true):I64 z:=by
 simpa [I64,Lit.wf,IntKind.min,IntKind.max,IntKind.signed,IntKind.bits] using h
theorem eQ' {α:Type} [Inhabited α] {t e:TypeId} (R:Rd α) (hk:0 < R.sz) (ht:Tryz.prog.underlying t = some (.slice e)) (hc:Tryz.prog.cellsOf e = R.sz)
  (one:∀ (cs:List Value) (n:Nat) (y:DataW H × List MemPlace),cs.length = R.sz -> DataW.trod enc Tryz.prog w 0 spare held n e cs = some y -> Rows.uptoBulk y.1 <= 1048576 -> ∃ x:α,R.den (Old w) cs x)
  {fuel:Nat} {v:Value} {x:DataW H × List MemPlace} (h:DataW.trod enc Tryz.prog w 0 spare held fuel t [v] = some x) (hB:Rows.uptoBulk x.1 <= 1048576):∃ l,SV R (Old w) l v:=by
 obtain ⟨l,a,c,e,hs⟩:=vv' R hk ht hc one h hB;have e:v = .slice a l.length c:=by simpa using e
 refine ⟨l,a,c,e,hs,?_⟩;rcases Go.Deep.open_slice ht h with ⟨h1,rfl⟩ | ⟨a',len,cap,m,k,D,Pl,h1,hb,hl,_⟩
 ·rw [e] at h1
  have h1:=(List.cons.inj h1).1;injection h1 with q1 q2 q3
  omega
 ·rw [e] at h1
  have h1:=(List.cons.inj h1).1;injection h1 with q1 q2 q3
  omega
theorem cr' {n:Nat} {cs:List Value} {y:DataW H × List MemPlace} (hn:DataW.trod enc Tryz.prog w 0 spare held n 3 cs = some y):∃ z,cs = [.int .i64 z] /\ I64 z:=by
 obtain ⟨z,rfl,rfl,hw⟩:=DataW.trod_int Tryz.underlying3 hn;exact ⟨z,rfl,vw' hw⟩
theorem vx' {n:Nat} {cs:List Value} {y:DataW H × List MemPlace} (hl:cs.length = 3) (hn:DataW.trod enc Tryz.prog w 0 spare held n 42 cs = some y):∃ x,rNd.den (Old w) cs x:=by
 obtain ⟨xs,m,rfl,rfl,_,hxl,hf⟩:=DataW.trod_struct Tryz.underlying42 hn
 match cs,hl,xs,hxl with
 | [c0,c1,c2],_,[x0,x1,x2],_ =>
  have g0:=hf 0 _ rfl;have g1:=hf 1 _ rfl;have g2:=hf 2 _ rfl;simp [show Tryz.prog.cellsOf 3 = 1 by kernel_rfl] at g0 g1 g2;obtain ⟨z0,e0,w0⟩:=cr' g0;obtain ⟨z1,e1,w1⟩:=cr' g1;obtain ⟨z2,e2,w2⟩:=cr' g2;simp at e0 e1 e2;subst e0 e1 e2;exact ⟨⟨z0,z1,z2⟩,rfl,w0,w1,w2⟩
theorem vy' {n:Nat} {cs:List Value} {y:DataW H × List MemPlace} (hl:cs.length = 3) (hn:DataW.trod enc Tryz.prog w 0 spare held n 236 cs = some y):∃ x,rOr.den (Old w) cs x:=by
 obtain ⟨xs,m,rfl,rfl,_,hxl,hf⟩:=DataW.trod_struct Tryz.underlying236 hn
 match cs,hl,xs,hxl with
 | [c0,c1,c2],_,[x0,x1,x2],_ =>
  have g0:=hf 0 _ rfl;have g1:=hf 1 _ rfl;have g2:=hf 2 _ rfl;simp [show Tryz.prog.cellsOf 3 = 1 by kernel_rfl] at g0 g1 g2;obtain ⟨z0,e0,w0⟩:=cr' g0;obtain ⟨z1,e1,w1⟩:=cr' g1;obtain ⟨z2,e2,w2⟩:=cr' g2;simp at e0 e1 e2;subst e0 e1 e2;exact ⟨⟨z0,z1,z2⟩,rfl,w0,w1,w2⟩
theorem vz' {n:Nat} {cs:List Value} {y:DataW H × List MemPlace} (hl:cs.length = 2) (hn:DataW.trod enc Tryz.prog w 0 spare held n 196 cs = some y):∃ x,rPr.den (Old w) cs x:=by
 obtain ⟨xs,m,rfl,rfl,_,hxl,hf⟩:=DataW.trod_struct Tryz.underlying196 hn
 match cs,hl,xs,hxl with
 | [c0,c1],_,[x0,x1],_ =>
  have g0:=hf 0 _ rfl;have g1:=hf 1 _ rfl;simp [show Tryz.prog.cellsOf 3 = 1 by kernel_rfl] at g0 g1;obtain ⟨z0,e0,w0⟩:=cr' g0;obtain ⟨z1,e1,w1⟩:=cr' g1;simp at e0 e1;subst e0 e1;exact ⟨(z0,z1),rfl,w0,w1⟩
theorem cK' {n:Nat} {v:Value} {y:DataW H × List MemPlace} (hn:DataW.trod enc Tryz.prog w 0 spare held n 29 [v] = some y) (hB:Rows.uptoBulk y.1 <= 1048576):∃ l,SV rNd (Old w) l v :=
 eQ' rNd (by decide) Tryz.underlying29 (by kernel_rfl) (fun cs n y hl hn hb=>vx' hl hn) hn hB
theorem ev' {n:Nat} {v:Value} {y:DataW H × List MemPlace} (hn:DataW.trod enc Tryz.prog w 0 spare held n 67 [v] = some y) (hB:Rows.uptoBulk y.1 <= 1048576):∃ l,SV (rSk rNd) (Old w) l v :=
 eQ' (rSk rNd) Nat.one_pos Tryz.underlying67 (by kernel_rfl) (fun cs n y hl hn hb=>by
  match cs,hl with
  | [c],_ =>
   obtain ⟨l,a,cc,rfl,hs,hcap⟩:=cK' hn hb;exact ⟨l,a,cc,rfl,hcap,hs⟩) hn hB
theorem vA' {n:Nat} {cs:List Value} {y:DataW H × List MemPlace} (hl:cs.length = 2) (hn:DataW.trod enc Tryz.prog w 0 spare held n 69 cs = some y) (hB:Rows.uptoBulk y.1 <= 1048576):∃ x,rCt.den (Old w) cs x:=by
 obtain ⟨xs,m,rfl,rfl,_,hxl,hf⟩:=DataW.trod_struct Tryz.underlying69 hn
 match cs,hl,xs,hxl with
 | [c0,c1],_,[x0,x1],_ =>
  have g0:=hf 0 _ rfl;have g1:=hf 1 _ rfl;simp [show Tryz.prog.cellsOf 67 = 1 by kernel_rfl] at g0 g1;obtain ⟨l0,h0⟩:=ev' g0 (aP' (x:=x0) (by simp) hB);obtain ⟨l1,h1⟩:=ev' g1 (aP' (x:=x1) (by simp) hB);exact ⟨⟨l0,l1⟩,_,_,rfl,h0,h1⟩
theorem vB' {n:Nat} {cs:List Value} {y:DataW H × List MemPlace} (hl:cs.length = 7) (hn:DataW.trod enc Tryz.prog w 0 spare held n 72 cs = some y) (hB:Rows.uptoBulk y.1 <= 1048576):∃ x,rEn.den (Old w) cs x:=by
 obtain ⟨xs,m,rfl,rfl,_,hxl,hf⟩:=DataW.trod_struct Tryz.underlying72 hn
 match cs,hl,xs,hxl with
 | [c0,c1,c2,c3,c4,c5,c6],_,[x0,x1,x2,x3,x4,x5,x6],_ =>
  have g0:=hf 0 _ rfl;have g1:=hf 1 _ rfl;have g2:=hf 2 _ rfl;have g3:=hf 3 _ rfl;have g4:=hf 4 _ rfl;have g5:=hf 5 _ rfl;have g6:=hf 6 _ rfl;simp [show Tryz.prog.cellsOf 3 = 1 by kernel_rfl,show Tryz.prog.cellsOf 67 = 1 by kernel_rfl,show Tryz.prog.cellsOf 29 = 1 by kernel_rfl,show Tryz.prog.cellsOf 70 = 1 by kernel_rfl] at g0 g1 g2 g3 g4 g5 g6;obtain ⟨z0,e0,w0⟩:=cr' g0;obtain ⟨l1,h1⟩:=cK' g1 (aP' (x:=x1) (by simp) hB);obtain ⟨l2,h2⟩:=ev' g2 (aP' (x:=x2) (by simp) hB);obtain ⟨l3,h3⟩:=ev' g3 (aP' (x:=x3) (by simp) hB);obtain ⟨l4,h4⟩:=eQ' rCt (by decide) Tryz.underlying70 (by kernel_rfl) (fun cs n y hl hn hb=>vA' hl hn hb) g4 (aP' (x:=x4) (by simp) hB);obtain ⟨l5,h5⟩:=cK' g5 (aP' (x:=x5) (by simp) hB);obtain ⟨l6,h6⟩:=cK' g6 (aP' (x:=x6) (by simp) hB);simp at e0;subst e0;exact ⟨⟨z0,l1,l2,l3,l4,l5,l6⟩,_,_,_,_,_,_,rfl,w0,h1,h2,h3,h4,h5,h6⟩
theorem vC' {n:Nat} {cs:List Value} {y:DataW H × List MemPlace} (hl:cs.length = 5) (hn:DataW.trod enc Tryz.prog w 0 spare held n 26 cs = some y) (hB:Rows.uptoBulk y.1 <= 1048576):∃ x,rBo.den (Old w) cs x:=by
 obtain ⟨xs,m,rfl,rfl,_,hxl,hf⟩:=DataW.trod_struct Tryz.underlying26 hn
 match cs,hl,xs,hxl with
 | [c0,c1,c2,c3,c4],_,[x0,x1,x2,x3,x4],_ =>
  have g0:=hf 0 _ rfl;have g1:=hf 1 _ rfl;have g2:=hf 2 _ rfl;have g3:=hf 3 _ rfl;have g4:=hf 4 _ rfl;simp [show Tryz.prog.cellsOf 3 = 1 by kernel_rfl,show Tryz.prog.cellsOf 22 = 1 by kernel_rfl,show Tryz.prog.cellsOf 23 = 1 by kernel_rfl,show Tryz.prog.cellsOf 24 = 1 by kernel_rfl] at g0 g1 g2 g3 g4;obtain ⟨z0,e0,w0⟩:=cr' g0;obtain ⟨l1,h1⟩:=eQ' rOr (by decide) Tryz.underlying22 (by kernel_rfl) (fun cs n y hl hn hb=>vy' hl hn) g1 (aP' (x:=x1) (by simp) hB);obtain ⟨l2,h2⟩:=eQ' rEn (by decide) Tryz.underlying23 (by kernel_rfl) (fun cs n y hl hn hb=>vB' hl hn hb) g2 (aP' (x:=x2) (by simp) hB);obtain ⟨z3,e3,w3⟩:=cr' g3;obtain ⟨l4,h4⟩:=eQ' rPr (by decide) Tryz.underlying24 (by kernel_rfl) (fun cs n y hl hn hb=>vz' hl hn) g4 (aP' (x:=x4) (by simp) hB);simp at e0 e3;subst e0 e3;exact ⟨⟨z0,l1,l2,z3,l4⟩,_,_,_,rfl,w0,w3,h1,h2,h4⟩
end
section
variable {H:Type} {enc:TypeId × Value -> H} {w:World} {spare:Nat -> Bool} {held:Bool}
theorem tp' {n:Nat} {cs:List Value} {y:DataW H × List MemPlace} (hl:cs.length = 2) (hn:DataW.trod enc Tryz.prog w 0 spare held n 82 cs = some y) (hB:Rows.uptoBulk y.1 <= 1048576):∃ x,rBd.den (Old w) cs x:=by
 obtain ⟨xs,m,rfl,rfl,_,hxl,hf⟩:=DataW.trod_struct Tryz.underlying82 hn
 match cs,hl,xs,hxl with
 | [c0,c1],_,[x0,x1],_ =>
  have g0:=hf 0 _ rfl;have g1:=hf 1 _ rfl;simp [show Tryz.prog.cellsOf 29 = 1 by kernel_rfl] at g0 g1;obtain ⟨l0,h0⟩:=cK' g0 (aP' (x:=x0) (by simp) hB);obtain ⟨l1,h1⟩:=cK' g1 (aP' (x:=x1) (by simp) hB);exact ⟨(l0,l1),_,_,rfl,h0,h1⟩
theorem CeV.mono {C D:Mem} {x:CeT} {v:Value} (h:CeV C x v) (hc:∀ b o v,C b o v -> D b o v):CeV D x v:=by
 obtain ⟨v1,v2,v3,vc,vt,e,h1,h2,h3,h4,h5,h7⟩:=h;exact ⟨v1,v2,v3,vc,vt,e,h1.mono hc,h2.mono hc,h3.mono hc,h4.mono hc,h5.mono hc,h7⟩
theorem oH' {r:Reach} {b0:Nat} {v:Value} {d:DataW H} {ps:List MemPlace} (hval:Value.okWide Tryz.prog w r b0 31 v) (h:DataW.Trod enc Tryz.prog w 0 spare held 31 v d ps) (hB:Rows.uptoBulk d <= 1048576) :
  ∃ x,CeV (Im [] w) x v:=by
 obtain ⟨cs,rfl,hs⟩:=okWide_struct Tryz.underlying31 hval;obtain ⟨fuel,hf0⟩:=h;obtain ⟨xs,m,rfl,hx,hl,hxl,hf⟩:=DataW.trod_struct Tryz.underlying31 hf0;have hsz:cs.size = 8:=by rw [hs]; kernel_rfl
 obtain ⟨cs⟩:=cs
 match cs,hsz,xs,hxl with
 | [c0,c1,c2,c3,c4,c5,c6,c7],_,[x0,x1,x2,x3],_ =>
  have hd:d = .agg ([x0,x1,x2,x3].map (·.1)):=(Prod.mk.injEq .. ▸ hx).1;rw [hd] at hB;have g0:=hf 0 _ rfl;have g1:=hf 1 _ rfl;have g2:=hf 2 _ rfl;have g3:=hf 3 _ rfl;simp [Value.cells,show Tryz.prog.cellsOf 26 = 5 by kernel_rfl,show Tryz.prog.cellsOf 27 = 1 by kernel_rfl,show Tryz.prog.cellsOf 29 = 1 by kernel_rfl,show Tryz.prog.cellsOf 3 = 1 by kernel_rfl] at g0 g1 g2 g3;obtain ⟨bo,w1,w2,w3,e0,i0,i1,h1,h2,h3⟩:=vC' rfl g0 (aP' (x:=x0) (by simp) hB);obtain ⟨l1,k1⟩:=eQ' rBd (by decide) Tryz.underlying27 (by kernel_rfl) (fun cs n y hl hn hb=>tp' hl hn hb) g1 (aP' (x:=x1) (by simp) hB);obtain ⟨l2,k2⟩:=cK' g2 (aP' (x:=x2) (by simp) hB);obtain ⟨z4,e4,i4⟩:=cr' g3;simp at e0 e4;obtain ⟨rfl,rfl,rfl,rfl,rfl⟩:=e0;subst e4;exact ⟨⟨bo,l1,l2,z4⟩,CeV.mono (C:=Old w) ⟨_,_,_,_,_,rfl,h1,h2,h3,k1,k2,i4⟩ fun b o v h=>⟨Old.sub w _ _ _ h,by simp⟩⟩
end
end Go.Proofs.YtmlnlmkmpgkekaaGreat
