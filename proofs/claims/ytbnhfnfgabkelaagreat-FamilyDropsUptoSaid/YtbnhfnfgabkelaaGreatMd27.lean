import Derived.Test.YtbnhfnfgabkelaaGreatMd26
import Derived.Test.YtbnhfnfgabkelaaGreatRows
import Derived.ProofKit
import Derived.OpenShut
import Derived.Deep.Slices
import Derived.JoinedCond
import Derived.Carry
set_option linter.unusedVariables false
set_option linter.unusedSimpArgs false
set_option maxRecDepth 100000
set_option maxHeartbeats 4000000
namespace Go.Wx
theorem Own.at {α:Type} {R:Rd α} {e lo:Nat} {w:World} {v:Value} {l:List α} (h:Own R e lo w v l) {i:Nat} {x:α} (hi:l[i]? = some x) :
  ∃ g cap cs,v = .slice (some ⟨g,0,none⟩) l.length cap /\ R.den (Dn lo v w) cs x /\ (∀ j u,cs[j]? = some u -> Cl w.heap g (0 + i * R.sz + j) u) /\ lo <= g:=by
 obtain ⟨⟨css,h1,h2⟩,h3⟩:=h;have hlen:=h2.length;have hil:=ai' hi;have hk:∀ cs ∈ css,cs.length = R.sz:=by
  intro cs hcs;obtain ⟨i,hi⟩:=JH hcs;have hil:=(List.getElem?_eq_some_iff.1 hi).1;obtain ⟨cs',h4,h5⟩:=h2.get (i:=i) (a:=l[i]'(by omega)) (by simp);rw [hi] at h4;obtain rfl:=JB h4;exact R.len h5
 rcases h1 with ⟨hl1,⟨rfl,h0⟩ | ⟨g,cap,cur,rfl,hb,hg,hn,hm,hc,ht⟩⟩
 ·omega
 obtain ⟨cs,hcs,hden⟩:=h2.get hi;refine ⟨g,cap,cs,rfl,hden,fun j u hj=>⟨_,_,_,hg,?_⟩,hb⟩;have hfl:=Go.Wx.flat_get css hk i j cs u hcs hj;rw [<- ht,List.getElem?_take] at hfl;split at hfl
 ·rw [KW]
  simpa using hfl
 ·cases hfl
end Go.Wx
namespace Go.Proofs.YtbnhfnfgabkelaaGreat
open Go.Wx Cd Tm Lv
theorem mJ' {B:BoT} (hR:aJ' B = 0):B.ents.length <= 64 /\ ∀ x ∈ B.ents,x.ctors.length <= 16:=by
 obtain ⟨_,h2,h3,_⟩:=nX' hR;refine ⟨h2,fun x hx=>?_⟩;obtain ⟨k,hk⟩:=JH hx;have h0:=cS' B.ents 0 h3 k x hk;unfold bF' at h0;split at h0
 ·split at h0
  ·cases h0
  split at h0
  ·cases h0
  rename_i g;omega
 ·split at h0
  ·split at h0
   ·cases h0
   ·rename_i g
    omega
  ·cases h0
theorem wz' {B:BoT} {e f:Int} {q:Unit × Nat} (h:dx' B e f = .ok q):aJ' B = 0:=by
 unfold dx' at h;split at h
 ·cases h
 rename_i g;have g:bd' B e = 0:=Decidable.not_not.1 g;unfold bd' at g;split at g
 ·rename_i g1; exact absurd g g1
 ·rename_i g1; exact Decidable.not_not.1 g1
section
variable {w:World} {B:BoT}
theorem iE' {v:Value} (hv:BoV (Im [] w) B v) (en fuel:Int) :
  CC 3 #[v,.int .i64 en,.int .i64 fuel] w (fun e w'=>e = .returned (.bool true) /\ Kp [] w w'):=by
 refine oF Tryz.func3 ?_;have hvv:=hv;obtain ⟨v1,v2,v3,rfl,hO,hE,hP⟩:=hv;obtain ⟨ae,ce,rfl,hE1,_⟩:=id hE;have lE:=hE1.1;refine cO (args:=[_,_,_]) 97 [.tmp 6] τok Tryz.func3 ?_;refine new fun b3 w1 hb3 h3 hs1 hk1=>?_;have h3:Bk w1.heap b3 [.int .i64 B.vars,v1,.slice ae B.ents.length ce,.int .i64 B.nat,v3] 26:=h3;refine ab' (rn' w1) ?_;rintro e w2 ⟨rfl,hk2⟩;have k02:=hk1.tr hk2;have h3:=h3.kp hk2 (by simp);refine ldN [.int .i64 B.vars,v1,.slice ae B.ents.length ce,.int .i64 B.nat,v3] rfl (bZ h3) ?_;refine ab' (vj' ((Im.sub [] w).tr k02) hvv (lim:=3000) (by omega)) ?_;rintro e w3 ⟨rfl,hk3⟩;have k03:=k02.tr hk3;have h3:=h3.kp hk3 (by simp);refine ac' (fun g0=>?_) (fun g0=>?_)
 ·exact ⟨rfl,k03⟩
 refine ac' (fun g1=>?_) (fun g1=>?_)
 ·exact ⟨rfl,k03⟩
 have g1:¬ fuel < 0:=g1;refine ac' (fun g2=>?_) (fun g2=>?_)
 ·exact ⟨rfl,k03⟩
 have g2:¬ 300 < fuel:=g2;refine lb h3 ?_;refine ac' (fun g4=>?_) (fun g4=>?_)
 ·exact ⟨rfl,k03⟩
 have g4:¬ B.nat ≠ -1:=g4;refine ac' (fun g5=>?_) (fun g5=>?_)
 ·exact ⟨rfl,k03⟩
 have g5:¬ en < 0:=g5;refine lb h3 ?_;refine i6 ?_;refine ac' (fun g6=>?_) (fun g6=>?_)
 ·exact ⟨rfl,k03⟩
 have g6:¬ en ≠ (B.ents.length:Int) - 1:=g6;obtain ⟨e,rfl⟩:∃ e:Nat,en = (e:Int):=⟨en.toNat,by omega⟩
 have he1:e + 1 = B.ents.length:=by omega
 have hnat:B.nat = -1:=by omega
 refine ldN [.int .i64 B.vars,v1,.slice ae B.ents.length ce,.int .i64 B.nat,v3] rfl (bZ h3) ?_;refine ab' (dN' (w:=w3) (C:=Im [] w) (en:=(e:Int)) ((Im.sub [] w).tr k03) (fun _ _ _ h=>KZ h.hold k03.size) hvv fuel) ?_;rintro r w4 ⟨he,hk4⟩;have k04:=k03.tr hk4;have h3:=h3.kp hk4 (by simp);cases hr:dx' B (e:Int) fuel with
 | error er =>
  rw [hr] at he;obtain ⟨rfl,her⟩:=he;refine au' (p:=er ≠ 0) her ?_;exact ⟨rfl,k04⟩
 | ok q =>
  obtain ⟨⟨⟩,n⟩:=q;rw [hr] at he;obtain rfl:=he;obtain ⟨m,hm,hnm⟩:=td' he1 hnat hr;obtain ⟨hE64,hC16⟩:=mJ' (wz' hr);obtain ⟨x,hx,_⟩:=af' (l:=B.ents) (k:=e) (by omega);have hxD:=bJ' hx;have hx16:=hC16 x (JQ hx);obtain ⟨bE,oE,rfl,hcE⟩:=hE1.at (by omega:e < B.ents.length)
  obtain ⟨csE,⟨u1,u2,u3,u4,u5,u6,rfl,hki,hso,hpa,hin,hct,hty,hbo⟩,hcell⟩:=hcE e x hx;obtain ⟨ac_,cc_,rfl,hs4',_⟩:=hct;refine lb h3 ?_;refine ix e rfl (by omega) ?_;refine ld (Cl.cell ((hcell 4 _ rfl).1.kp k04 (by simp))) ?_;refine ac' (fun g7=>?_) (fun g7=>?_)
  ·exact ⟨rfl,k04⟩
  have g7:¬ (x.ctors.length:Int) = 0:=g7;refine ldN [.int .i64 B.vars,v1,.slice (some ⟨bE,oE,none⟩) B.ents.length ce,.int .i64 B.nat,v3] rfl (bZ h3) ?_;refine ab' (mI' (w:=w4) ((Im.sub [] w).tr k04) hvv hE64 hC16) ?_;rintro r w5 ⟨vo,ve,vp,rfl,hvo,hOe,hvp,hk5⟩;have k05:=k04.tr hk5;have oe:ve.oneCell' = true:=by obtain ⟨_,_,e⟩:=hOe.len; rw [e]; rfl
  refine new fun b9 w6 hb9 h9 hs6 hk6=>?_;refine stN (vs:=[.int .i64 B.vars,vo,ve,.int .i64 B.nat,vp]) h9 rfl (by intro v hv; simp at hv; rcases hv with rfl | rfl | rfl | rfl | rfl <;> first | rfl | exact hvo.one | exact hvp.one | exact oe) fun w7 h9 hs7 hk7=>?_;have k57:=hk6.newSt hb9 hk7;have h9:Bk w7.heap b9 [.int .i64 B.vars,vo,ve,.int .i64 B.nat,vp] 26:=h9;obtain ⟨wd,hwd⟩:∃ wd,wd = (dr w7):=⟨_,rfl⟩
  have kd:Kp [] w7 wd:=by rw [hwd]; exact (Kp.refl [] w7).dr _
  have hOd:=hOe.kp (k57.tr kd);obtain ⟨g,cap,cs,hve,hden,hcs,hlo⟩:=(hOe.kp k57).at hx;obtain ⟨t1,t2,t3,t4,t5,t6,rfl,_,_,_,_,hct7,_,_⟩:=hden;obtain ⟨ac,cc,rfl,hs7',hcc⟩:=hct7;obtain ⟨bc,oc,rfl,_⟩:=hs7'.at (i:=0) (by omega)
  have hblk:=hOe.block g (by rw [hve]; rfl);subst hve;refine aq' τok (fun z=>Kp [] w7 z) ?_;refine rV τok (rg 0 18) 3 (mR 21 18) (kQd w7) ?_;refine lk h9 ?_;refine lk h9 ?_;refine ix e rfl (by omega) ?_;refine ldK (hcs 4 _ rfl) ?_;refine lk h9 ?_;refine ix e rfl (by omega) ?_;refine ldK (hcs 4 _ rfl) ?_;refine jA' ((x.ctors.length - 1:Nat):Int) (by omega) (by omega) (by omega) ?_;refine tW' τok rfl (x.ctors.length - 1) (.slice (some ⟨bc,oc,none⟩) (x.ctors.length - 1) cc) rfl (by omega) dn' ?_;refine rV τok [18,19] 1 (mR 21 20) (kQd w7) ?_;refine ix e rfl (by omega) ?_;refine nV τok 20 0 (mR 21 21) ?_;rw [<- hwd];have htk:(x.ctors.take (x.ctors.length - 1)).length = x.ctors.length - 1:=by rw [List.length_take]; omega
  have hu:SV rCt (Dn w4.heap.size (.slice (some ⟨g,0,none⟩) B.ents.length cap) wd) (gx' x).ctors (.slice (some ⟨bc,oc,none⟩) (x.ctors.length - 1) cc):=⟨_,_,by show _ = Value.slice _ (x.ctors.take (x.ctors.length - 1)).length _; rw [htk],(hs7'.takeN (x.ctors.length - 1)).mono fun b o u h=>⟨h.1,h.2.1,h.2.2.kp kd (by simp)⟩,by show (x.ctors.take (x.ctors.length - 1)).length <= cc; omega⟩
  obtain ⟨g',cap',hve',_,hst⟩:=hOd.st (i:=e) (j:=4) (x:=x) (y:=gx' x) hx (by decide) (u:=.slice (some ⟨bc,oc,none⟩) (x.ctors.length - 1) cc) rfl (by
   rintro cs ⟨s1,s2,s3,s4,s5,s6,rfl,q0,q1,q2,q3,q4,q5,q6⟩;exact ⟨s1,s2,s3,_,s5,s6,rfl,q0,q1,q2,q3,hu,q5,q6⟩)
  injection hve' with z1 _ _
  injection z1 with z1
  injection z1 with z1
  subst z1;refine hst fun w8 hO8 hs8 hk8=>?_;refine ⟨.inr (by kernel_rfl),?_⟩;refine dV ?_;have k58:Kp [g] w5 w8:=((k57.tr kd).weak (by simp)).trans hk8 fun y hy _=>hy;have n9:b9 ≠ g:=by have:=hk6.size; omega
  have h98:=(h9.kp kd (by simp)).kp hk8 (by simpa using n9);have k08:Kp [] w w8:=(k04.tr hk5).trans k58 fun y hy hl=>by simp at hy; have:=k04.size; omega
  refine ldN [.int .i64 B.vars,vo,.slice (some ⟨g,0,none⟩) B.ents.length cap,.int .i64 B.nat,vp] rfl (bZ h98) ?_;have upA:∀ b o u,Ap (.slice (some ⟨g,0,none⟩) B.ents.length cap) w5 b o u -> Im [] w8 b o u:=fun b o u h=>⟨h.2.kp k58 (fun hm=>h.1 (by simp at hm; rw [hm]; rfl)),by simp⟩
  have hbk:BoV (Im [] w8) (cz' B e) (.agg #[.int .i64 B.vars,vo,.slice (some ⟨g,0,none⟩) B.ents.length cap,.int .i64 B.nat,vp]):=by
   refine ⟨vo,_,vp,rfl,hvo.mono upA,?_,hvp.mono upA⟩;have hsv:=hO8.svN (by rw [List.length_set]; omega) (KJ _);unfold cz';rw [hxD];exact hsv.mono fun b o u h=>⟨h.2.cl,by simp⟩
  refine ab' (dN' (w:=w8) (C:=Im [] w8) (en:=(e:Int)) (Im.sub [] w8) (fun _ _ _ h=>h.hold) hbk fuel) ?_;rintro r w9 ⟨he9,hk9⟩;rw [hm] at he9;obtain rfl:=he9;exact ⟨congrArg (fun b=>Ending.returned (Value.bool b)) (decide_eq_true (by show (n:Int) <= (m:Int); omega)),k08.tr hk9⟩
end
end Go.Proofs.YtbnhfnfgabkelaaGreat
namespace Go.Wx
open Go.ChangeShapes Go.WideShapes Go.ChangeAt Go.RowKit
theorem lF' {H:Type} {enc:TypeId × Value -> H} {P:Program} (hl:laidOutB P = true) {W W':World} (hb:Below W.heap.size W W') :
  ∀ (ts:List TypeId) (vs:List Value) (ds:List (DataW H)) (ps:List MemPlace),(ts.all fun t=>P.readableRec t && Nat.blt t P.types.size) = true -> DataW.TrodAll enc P W 0 (fun _=>true) true ts vs ds ps ->
   (∀ x ∈ ps,x.block < W.heap.size) -> ∀ sp:Nat -> Bool,(∀ p ∈ ps,sp p.block = true) -> DataW.TrodAll enc P W' 0 sp true ts vs ds ps
 | [],vs,ds,ps,_,h,_,sp,_=>by
  obtain ⟨rfl,rfl,rfl⟩:=trodAll_nil h
  rfl
 | t :: ts,vs,ds,ps,hts,h,hlt,sp,hsp=>by
  obtain ⟨v,vs',d,ds',p,q,rfl,rfl,rfl,h0,h1⟩:=trodAll_cons h;simp only [List.all_cons,Bool.and_eq_true] at hts;refine ⟨p,q,?_,lF' hl hb ts _ _ _ hts.2 h1 (fun x hx=>hlt x (by simp [hx])) sp (fun x hx=>hsp x (by simp [hx])),rfl⟩;exact WideElems.Trod_stays hl hts.1.1 (by simpa [Nat.blt_eq] using hts.1.2) h0 (fun x hx=>hb.same (hlt x (by simp [hx]))) (fun x hx=>hsp x (by simp [hx]))
theorem ro' {H:Type} {enc:TypeId × Value -> H} {P:Program} {f:Func} {s:ChangeSpec} {apart fresh handsOn:Bool} {W W':World} {args:Array Value} {ds gs:List (DataW H)} {before:List MemPlace} {tb:TypeId}
  (hl:laidOutB P = true) (hts:(f.params.toList.all fun t=>P.readableRec t && Nat.blt t P.types.size) = true) (hrt:f.resultTypes = #[tb]) (hb:P.underlying tb = some .bool)
  (hW:DataW.Whole enc P f.params.toList s.vars apart W args.toList ds gs before) (hs:s.vars = []) (hres:(s.fn H ds).results = [.lit (.bool true)]) (hargs:(s.fn H ds).args = ds) (hvars:(s.fn H ds).vars = [])
  (hk:Kp [] W W'):s.post enc P f apart fresh handsOn false W args (.bool true) W':=by
 have hW':=hW;obtain ⟨p,q,hA,hV,rfl,hfz,hnd⟩:=hW;rw [hs] at hV;obtain ⟨rfl,rfl⟩:=trodVars_none hV;have hbl:=hk.below;have hlt:∀ x ∈ p,x.block < W.heap.size:=fun x hx=>hW'.lt x (by simp [hx]);refine ⟨ds,[],p ++ [],[],p,[],hW',?_,?_,?_,?_,fun h=>by cases h⟩
 ·rw [JD,hres,hrt]
  exact trodAll_mk1 (shut_bool hb true)
 ·rw [JD,hargs]
  exact lF' hl hbl _ _ _ _ hts hA hlt _ fun x hx=>by simpa using hlt x hx
 ·rw [JD,hvars,hs]
  rfl
 ·exact hbl.frame _
end Go.Wx
namespace Go.Proofs.YtbnhfnfgabkelaaGreat
open Go.Wx Go.ChangeShapes Go.WideShapes Go.ChangeAt Go.RowKit
theorem te' {H:Type} (d:DataW H):1 <= Rows.uptoBulk d:=by
 cases d with
 | lit l=>cases l <;> simp [Rows.uptoBulk]
 | nil=>simp [Rows.uptoBulk]
 | ptr d=>simp [Rows.uptoBulk]
 | slice elems spare=>simp [Rows.uptoBulk]
 | agg parts=>simp [Rows.uptoBulk]
 | iface t d=>simp [Rows.uptoBulk]
 | map entries=>simp [Rows.uptoBulk]
 | held h=>simp [Rows.uptoBulk]
theorem iw' {H:Type} {d:DataW H} {l:List (DataW H)} (h:d ∈ l):Rows.uptoBulk d <= Rows.uptoBulkAll l:=by
 induction l with
 | nil=>cases h
 | cons x r ih =>
  simp only [Rows.uptoBulkAll];cases List.mem_cons.1 h with
  | inl e=>subst e; omega
  | inr e=>have:=ih e; omega
theorem tf' {H:Type} (l:List (DataW H)):l.length <= Rows.uptoBulkAll l:=by
 induction l with
 | nil=>simp [Rows.uptoBulkAll]
 | cons x r ih=>have:=te' x; simp only [Rows.uptoBulkAll,JV]; omega
theorem vk' {H:Type} {l:List (DataW H)} (hk:Rows.uptoSmall H l = true):Rows.uptoBulkAll l <= 1048576:=of_decide_eq_true hk
theorem tg' {H:Type} (l r:List (DataW H)):Rows.uptoBulkAll (l ++ r) = Rows.uptoBulkAll l + Rows.uptoBulkAll r:=by
 induction l with
 | nil=>simp [Rows.uptoBulkAll]
 | cons x l ih=>simp only [List.cons_append,Rows.uptoBulkAll,ih]; omega
theorem bQ' {H:Type} {xs:List (DataW H × List MemPlace)} {x:DataW H × List MemPlace} (hx:x ∈ xs) (hB:Rows.uptoBulk (.agg (xs.map (·.1))) <= 1048576):Rows.uptoBulk x.1 <= 1048576:=by
 have:=iw' (List.mem_map_of_mem (f:=(·.1)) hx);simp only [Rows.uptoBulk] at hB;omega
section
variable {H:Type} {enc:TypeId × Value -> H} {w:World} {spare:Nat -> Bool} {held:Bool}
theorem mK' {a:Addr} {v:Value} (h:w.cell? a = some v):∃ b o,a = ⟨b,o,none⟩:=by
 obtain ⟨b,o,s⟩:=a;unfold World.cell? at h;split at h
 ·rename_i c T fz hb
  cases s with
  | none=>exact ⟨b,o,rfl⟩
  | some _=>simp at h
 ·cases h
theorem th' {α:Type} [Inhabited α] {t e:TypeId} (R:Rd α) (hk:0 < R.sz) (ht:Tryz.prog.underlying t = some (.slice e)) (hc:Tryz.prog.cellsOf e = R.sz) (ok:DataW H -> Prop)
  (one:∀ (cs:List Value) (n:Nat) (y:DataW H × List MemPlace),cs.length = R.sz -> DataW.trod enc Tryz.prog w 0 spare held n e cs = some y -> ok y.1 -> ∃ x:α,R.den (Old w) cs x)
  {fuel:Nat} {v:Value} {x:DataW H × List MemPlace} (h:DataW.trod enc Tryz.prog w 0 spare held fuel t [v] = some x) (hok:∀ es sp,x.1 = .slice es sp -> ∀ d ∈ es,ok d) :
  ∃ (a:Option Addr) (l:List α) (cap:Nat),v = .slice a l.length cap /\ (l.length <= 1099511627776 -> Sl R (Old w) a l) /\ (l.length = 0 \/ ∃ es sp,x.1 = .slice es sp /\ es.length = l.length):=by
 rcases Go.Deep.open_slice ht h with ⟨h1,rfl⟩ | ⟨a,len,cap,m,n,D,Pl,h1,hb,hl,hm,hmm,rfl,hx⟩
 ·simp only [List.cons.injEq,and_true] at h1
  subst h1;exact ⟨none,[],0,rfl,fun _=>Sl.nil _ _ _,.inl rfl⟩
 simp only [List.cons.injEq,and_true] at h1;subst h1;have hlm:len <= m:=by rw [hmm]; split <;> omega
 rw [hc] at hx;have each:∀ i,i < len -> ∃ q:α × List Value,R.den (Old w) q.2 q.1 /\ ∀ j u,q.2[j]? = some u -> w.cell? (a.add (i * R.sz + j)) = some u:=by
  intro i hi;obtain ⟨cs',h1,h2⟩:=hx i (by omega);obtain ⟨_,hlen,hcell⟩:=World.cells?_some h1;obtain ⟨x,hx⟩:=one cs' n _ hlen h2 (hok _ _ rfl _ (List.mem_map.2 ⟨i,by simpa using hi,rfl⟩));refine ⟨(x,cs'),hx,fun j u hu=>?_⟩;have hj:j < R.sz:=by rw [<- hlen]; exact ai' hu
  rw [<- Go.Deep.add_add,hcell j hj];exact hu
 obtain ⟨q,hq⟩:=Go.Deep.choose_lt each;refine ⟨some a,(List.range len).map fun i=>(q i).1,cap,by simp,fun hbig=>⟨hbig,?_⟩,.inr ⟨_,_,rfl,by simp⟩⟩
 by_cases h0:len = 0
 ·exact .inl (by simp [h0])
 obtain ⟨hd0,hz⟩:=hq 0 (by omega);have hl0:=R.len hd0;obtain ⟨u0,hu0⟩:∃ u,(q 0).2[0]? = some u:=⟨(q 0).2[0]'(by omega),by simp⟩
 have hz0:=hz 0 u0 hu0;rw [Nat.zero_mul,Nat.add_zero] at hz0;have hz':w.cell? a = some u0:=by simpa [Addr.add] using hz0
 obtain ⟨b,o,rfl⟩:=mK' hz';refine .inr ⟨b,o,rfl,fun i x hi=>?_⟩;rw [JX] at hi;have hil:i < len:=by
  rcases Nat.lt_or_ge i len with h | h
  ·exact h
  ·rw [List.getElem?_eq_none (by simpa using h)] at hi; cases hi
 rw [List.getElem?_range hil] at hi;have hi:=JB hi;subst hi;obtain ⟨hdi,hci⟩:=hq i hil;refine ⟨(q i).2,hdi,fun j u hj=>Cl.of ?_⟩;have:=hci j u hj;rw [dW'] at this;rw [Nat.add_assoc];exact this
theorem vl' {α:Type} [Inhabited α] {t e:TypeId} (R:Rd α) (hk:0 < R.sz) (ht:Tryz.prog.underlying t = some (.slice e)) (hc:Tryz.prog.cellsOf e = R.sz)
  (one:∀ (cs:List Value) (n:Nat) (y:DataW H × List MemPlace),cs.length = R.sz -> DataW.trod enc Tryz.prog w 0 spare held n e cs = some y -> Rows.uptoBulk y.1 <= 1048576 -> ∃ x:α,R.den (Old w) cs x)
  {fuel:Nat} {v:Value} {x:DataW H × List MemPlace} (h:DataW.trod enc Tryz.prog w 0 spare held fuel t [v] = some x) (hB:Rows.uptoBulk x.1 <= 1048576):∃ l,(rSl R).den (Old w) [v] l:=by
 obtain ⟨a,l,cap,h1,h2,h3⟩:=th' R hk ht hc (fun d=>Rows.uptoBulk d <= 1048576) one h (fun es sp e d hd=>by
  rw [e] at hB;have:=iw' hd;simp only [Rows.uptoBulk] at hB;omega)
 refine ⟨l,a,cap,by rw [h1],h2 ?_⟩;rcases h3 with h3 | ⟨es,sp,e,hl⟩
 ·omega
 ·rw [e] at hB
  have:=tf' es;simp only [Rows.uptoBulk] at hB;omega
end
end Go.Proofs.YtbnhfnfgabkelaaGreat
namespace Go.Proofs.YtbnhfnfgabkelaaGreat
open Go.Wx Cd Tm Lv Go.ChangeShapes Go.WideShapes Go.ChangeAt Go.RowKit
instance:Inhabited Nd:=⟨⟨0,0,0⟩⟩
instance:Inhabited ba':=⟨⟨0,0,0⟩⟩
instance:Inhabited BoT:=⟨⟨0,[],[],-1,[]⟩⟩
section
variable {H:Type} {enc:TypeId × Value -> H} {w:World} {spare:Nat -> Bool} {held:Bool}
theorem vm' {z:Int} (h:(Lit.int .i64 z).wf = true):I64 z:=by
 simpa [I64,Lit.wf,IntKind.min,IntKind.max,IntKind.signed,IntKind.bits] using h
theorem fZ' {α:Type} [Inhabited α] {t e:TypeId} (R:Rd α) (hk:0 < R.sz) (ht:Tryz.prog.underlying t = some (.slice e)) (hc:Tryz.prog.cellsOf e = R.sz)
  (one:∀ (cs:List Value) (n:Nat) (y:DataW H × List MemPlace),cs.length = R.sz -> DataW.trod enc Tryz.prog w 0 spare held n e cs = some y -> Rows.uptoBulk y.1 <= 1048576 -> ∃ x:α,R.den (Old w) cs x)
  {fuel:Nat} {v:Value} {x:DataW H × List MemPlace} (h:DataW.trod enc Tryz.prog w 0 spare held fuel t [v] = some x) (hB:Rows.uptoBulk x.1 <= 1048576):∃ l,SV R (Old w) l v:=by
 obtain ⟨l,a,c,e,hs⟩:=vl' R hk ht hc one h hB;have e:v = .slice a l.length c:=by simpa using e
 refine ⟨l,a,c,e,hs,?_⟩;rcases Go.Deep.open_slice ht h with ⟨h1,rfl⟩ | ⟨a',len,cap,m,k,D,Pl,h1,hb,hl,_⟩
 ·rw [e] at h1
  have h1:=(List.cons.inj h1).1;injection h1 with q1 q2 q3
  omega
 ·rw [e] at h1
  have h1:=(List.cons.inj h1).1;injection h1 with q1 q2 q3
  omega
theorem cV' {n:Nat} {cs:List Value} {y:DataW H × List MemPlace} (hn:DataW.trod enc Tryz.prog w 0 spare held n 3 cs = some y):∃ z,cs = [.int .i64 z] /\ I64 z:=by
 obtain ⟨z,rfl,rfl,hw⟩:=DataW.trod_int Tryz.underlying3 hn;exact ⟨z,rfl,vm' hw⟩
theorem vn' {n:Nat} {cs:List Value} {y:DataW H × List MemPlace} (hl:cs.length = 3) (hn:DataW.trod enc Tryz.prog w 0 spare held n 42 cs = some y):∃ x,rNd.den (Old w) cs x:=by
 obtain ⟨xs,m,rfl,rfl,_,hxl,hf⟩:=DataW.trod_struct Tryz.underlying42 hn
 match cs,hl,xs,hxl with
 | [c0,c1,c2],_,[x0,x1,x2],_ =>
  have g0:=hf 0 _ rfl;have g1:=hf 1 _ rfl;have g2:=hf 2 _ rfl;simp [show Tryz.prog.cellsOf 3 = 1 by kernel_rfl] at g0 g1 g2;obtain ⟨z0,e0,w0⟩:=cV' g0;obtain ⟨z1,e1,w1⟩:=cV' g1;obtain ⟨z2,e2,w2⟩:=cV' g2;simp at e0 e1 e2;subst e0 e1 e2;exact ⟨⟨z0,z1,z2⟩,rfl,w0,w1,w2⟩
theorem vp' {n:Nat} {cs:List Value} {y:DataW H × List MemPlace} (hl:cs.length = 3) (hn:DataW.trod enc Tryz.prog w 0 spare held n 150 cs = some y):∃ x,rOr.den (Old w) cs x:=by
 obtain ⟨xs,m,rfl,rfl,_,hxl,hf⟩:=DataW.trod_struct Tryz.underlying150 hn
 match cs,hl,xs,hxl with
 | [c0,c1,c2],_,[x0,x1,x2],_ =>
  have g0:=hf 0 _ rfl;have g1:=hf 1 _ rfl;have g2:=hf 2 _ rfl;simp [show Tryz.prog.cellsOf 3 = 1 by kernel_rfl] at g0 g1 g2;obtain ⟨z0,e0,w0⟩:=cV' g0;obtain ⟨z1,e1,w1⟩:=cV' g1;obtain ⟨z2,e2,w2⟩:=cV' g2;simp at e0 e1 e2;subst e0 e1 e2;exact ⟨⟨z0,z1,z2⟩,rfl,w0,w1,w2⟩
theorem vq' {n:Nat} {cs:List Value} {y:DataW H × List MemPlace} (hl:cs.length = 2) (hn:DataW.trod enc Tryz.prog w 0 spare held n 113 cs = some y):∃ x,rPr.den (Old w) cs x:=by
 obtain ⟨xs,m,rfl,rfl,_,hxl,hf⟩:=DataW.trod_struct Tryz.underlying113 hn
 match cs,hl,xs,hxl with
 | [c0,c1],_,[x0,x1],_ =>
  have g0:=hf 0 _ rfl;have g1:=hf 1 _ rfl;simp [show Tryz.prog.cellsOf 3 = 1 by kernel_rfl] at g0 g1;obtain ⟨z0,e0,w0⟩:=cV' g0;obtain ⟨z1,e1,w1⟩:=cV' g1;simp at e0 e1;subst e0 e1;exact ⟨(z0,z1),rfl,w0,w1⟩
theorem fF' {n:Nat} {v:Value} {y:DataW H × List MemPlace} (hn:DataW.trod enc Tryz.prog w 0 spare held n 33 [v] = some y) (hB:Rows.uptoBulk y.1 <= 1048576):∃ l,SV rNd (Old w) l v :=
 fZ' rNd (by decide) Tryz.underlying33 (by kernel_rfl) (fun cs n y hl hn hb=>vn' hl hn) hn hB
theorem eK' {n:Nat} {v:Value} {y:DataW H × List MemPlace} (hn:DataW.trod enc Tryz.prog w 0 spare held n 34 [v] = some y) (hB:Rows.uptoBulk y.1 <= 1048576):∃ l,SV (rSk rNd) (Old w) l v :=
 fZ' (rSk rNd) Nat.one_pos Tryz.underlying34 (by kernel_rfl) (fun cs n y hl hn hb=>by
  match cs,hl with
  | [c],_ =>
   obtain ⟨l,a,cc,rfl,hs,hcap⟩:=fF' hn hb;exact ⟨l,a,cc,rfl,hcap,hs⟩) hn hB
theorem vu' {n:Nat} {cs:List Value} {y:DataW H × List MemPlace} (hl:cs.length = 2) (hn:DataW.trod enc Tryz.prog w 0 spare held n 44 cs = some y) (hB:Rows.uptoBulk y.1 <= 1048576):∃ x,rCt.den (Old w) cs x:=by
 obtain ⟨xs,m,rfl,rfl,_,hxl,hf⟩:=DataW.trod_struct Tryz.underlying44 hn
 match cs,hl,xs,hxl with
 | [c0,c1],_,[x0,x1],_ =>
  have g0:=hf 0 _ rfl;have g1:=hf 1 _ rfl;simp [show Tryz.prog.cellsOf 34 = 1 by kernel_rfl] at g0 g1;obtain ⟨l0,h0⟩:=eK' g0 (bQ' (x:=x0) (by simp) hB);obtain ⟨l1,h1⟩:=eK' g1 (bQ' (x:=x1) (by simp) hB);exact ⟨⟨l0,l1⟩,_,_,rfl,h0,h1⟩
theorem vv' {n:Nat} {cs:List Value} {y:DataW H × List MemPlace} (hl:cs.length = 7) (hn:DataW.trod enc Tryz.prog w 0 spare held n 37 cs = some y) (hB:Rows.uptoBulk y.1 <= 1048576):∃ x,rEn.den (Old w) cs x:=by
 obtain ⟨xs,m,rfl,rfl,_,hxl,hf⟩:=DataW.trod_struct Tryz.underlying37 hn
 match cs,hl,xs,hxl with
 | [c0,c1,c2,c3,c4,c5,c6],_,[x0,x1,x2,x3,x4,x5,x6],_ =>
  have g0:=hf 0 _ rfl;have g1:=hf 1 _ rfl;have g2:=hf 2 _ rfl;have g3:=hf 3 _ rfl;have g4:=hf 4 _ rfl;have g5:=hf 5 _ rfl;have g6:=hf 6 _ rfl;simp [show Tryz.prog.cellsOf 3 = 1 by kernel_rfl,show Tryz.prog.cellsOf 34 = 1 by kernel_rfl,show Tryz.prog.cellsOf 33 = 1 by kernel_rfl,show Tryz.prog.cellsOf 35 = 1 by kernel_rfl] at g0 g1 g2 g3 g4 g5 g6;obtain ⟨z0,e0,w0⟩:=cV' g0;obtain ⟨l1,h1⟩:=fF' g1 (bQ' (x:=x1) (by simp) hB);obtain ⟨l2,h2⟩:=eK' g2 (bQ' (x:=x2) (by simp) hB);obtain ⟨l3,h3⟩:=eK' g3 (bQ' (x:=x3) (by simp) hB);obtain ⟨l4,h4⟩:=fZ' rCt (by decide) Tryz.underlying35 (by kernel_rfl) (fun cs n y hl hn hb=>vu' hl hn hb) g4 (bQ' (x:=x4) (by simp) hB);obtain ⟨l5,h5⟩:=fF' g5 (bQ' (x:=x5) (by simp) hB);obtain ⟨l6,h6⟩:=fF' g6 (bQ' (x:=x6) (by simp) hB);simp at e0;subst e0;exact ⟨⟨z0,l1,l2,l3,l4,l5,l6⟩,_,_,_,_,_,_,rfl,w0,h1,h2,h3,h4,h5,h6⟩
theorem vw' {n:Nat} {cs:List Value} {y:DataW H × List MemPlace} (hl:cs.length = 5) (hn:DataW.trod enc Tryz.prog w 0 spare held n 26 cs = some y) (hB:Rows.uptoBulk y.1 <= 1048576):∃ x,rBo.den (Old w) cs x:=by
 obtain ⟨xs,m,rfl,rfl,_,hxl,hf⟩:=DataW.trod_struct Tryz.underlying26 hn
 match cs,hl,xs,hxl with
 | [c0,c1,c2,c3,c4],_,[x0,x1,x2,x3,x4],_ =>
  have g0:=hf 0 _ rfl;have g1:=hf 1 _ rfl;have g2:=hf 2 _ rfl;have g3:=hf 3 _ rfl;have g4:=hf 4 _ rfl;simp [show Tryz.prog.cellsOf 3 = 1 by kernel_rfl,show Tryz.prog.cellsOf 22 = 1 by kernel_rfl,show Tryz.prog.cellsOf 23 = 1 by kernel_rfl,show Tryz.prog.cellsOf 24 = 1 by kernel_rfl] at g0 g1 g2 g3 g4;obtain ⟨z0,e0,w0⟩:=cV' g0;obtain ⟨l1,h1⟩:=fZ' rOr (by decide) Tryz.underlying22 (by kernel_rfl) (fun cs n y hl hn hb=>vp' hl hn) g1 (bQ' (x:=x1) (by simp) hB);obtain ⟨l2,h2⟩:=fZ' rEn (by decide) Tryz.underlying23 (by kernel_rfl) (fun cs n y hl hn hb=>vv' hl hn hb) g2 (bQ' (x:=x2) (by simp) hB);obtain ⟨z3,e3,w3⟩:=cV' g3;obtain ⟨l4,h4⟩:=fZ' rPr (by decide) Tryz.underlying24 (by kernel_rfl) (fun cs n y hl hn hb=>vq' hl hn) g4 (bQ' (x:=x4) (by simp) hB);simp at e0 e3;subst e0 e3;exact ⟨⟨z0,l1,l2,z3,l4⟩,_,_,_,rfl,w0,w3,h1,h2,h4⟩
end
section
variable {H:Type} {enc:TypeId × Value -> H} {w:World} {spare:Nat -> Bool} {held:Bool}
theorem rp' {r:Reach} {b0:Nat} {v:Value} {d:DataW H} {ps:List MemPlace} (hval:Value.okWide Tryz.prog w r b0 26 v) (h:DataW.Trod enc Tryz.prog w 0 spare held 26 v d ps) (hB:Rows.uptoBulk d <= 1048576) :
  ∃ x,BoV (Im [] w) x v:=by
 obtain ⟨cs,rfl,hs⟩:=okWide_struct Tryz.underlying26 hval;obtain ⟨fuel,hf0⟩:=h;have hsz:cs.size = 5:=by rw [hs]; kernel_rfl
 obtain ⟨x,v1,v2,v3,e0,i0,i1,h1,h2,h3⟩:=vw' (cs:=cs.toList) (by simpa using hsz) (by simpa [Value.cells] using hf0) hB;have e1:cs = #[.int .i64 x.vars,v1,v2,.int .i64 x.nat,v3]:=by
  have:=congrArg List.toArray e0
  simpa using this
 subst e1;exact ⟨x,BoV.mono (C:=Old w) ⟨v1,v2,v3,rfl,h1,h2,h3⟩ fun b o v h=>⟨Old.sub w _ _ _ h,by simp⟩⟩
end
end Go.Proofs.YtbnhfnfgabkelaaGreat
