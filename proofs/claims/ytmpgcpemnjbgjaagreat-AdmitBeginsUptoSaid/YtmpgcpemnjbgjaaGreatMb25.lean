import Derived.Test.YtmpgcpemnjbgjaaGreatMb24
set_option linter.unusedVariables false
set_option linter.unusedSimpArgs false
set_option maxRecDepth 100000
set_option maxHeartbeats 4000000
namespace Go.Proofs.YtmpgcpemnjbgjaaGreat
open Go.Wx Cd Tm Lv
def eS' (B:BoT) (t y:Tr) (n:Nat):Except Int (Unit × Nat):=bdJ (bQ' B [] y (n:Int)) fun _ n=>bi' B [] t y (n:Int)
def pg' (B:BoT) (x:EnT) (i n:Nat):Except Int (Unit × Nat):=if x.kind = 1 then gw' B (i:Int) (n:Int) else eS' B (tr x.body) (tr x.type) n
def cW' (B:BoT):List EnT -> Nat -> Nat -> Except Int (Unit × Nat)
 | [],_,n=>.ok ((),n)
 | x :: r,i,n=>bdJ (pg' B x i n) fun _ n=>cW' B r (i + 1) n
def gK' (B:BoT):List EnT -> Nat -> Nat -> Int
 | [],i,_=>i
 | x :: r,i,n=>match pg' B x i n with
  | .error _=>i
  | .ok q=>gK' B r (i + 1) q.2
def iG' (B:BoT) (p:Int × Int):Bool:=match ne' B p.2 with
 | .error _=>false
 | .ok q=>decide (q.1 = (entD B p.1).type) && decide (q.2 = (entD B p.1).body)
def bv' (B:BoT):List (Int × Int) -> Option Int
 | []=>none
 | p :: r=>if iG' B p = true then bv' B r else some p.1
def fM' (B:BoT) (n:Nat):Except Int (Unit × Nat):=bdJ (cW' B B.ents 0 n) fun _ n=>if bv' B B.prims = none then .ok ((),n) else .error 22
def eT' (B:BoT) (n:Nat):Int:=match cW' B B.ents 0 n with
 | .error _=>gK' B B.ents 0 n
 | .ok _=>(bv' B B.prims).getD B.ents.length
def GtC (w:World) (bg:Nat) (n:Nat) (at_ er:Int):Prop:=Bk w.heap bg [iV (n:Int),iV at_,iV er] 125
theorem ldNS {S:World -> Prop} {b o n:Nat} {k:Value -> Prop} (cs:List Value) (hn:cs.length = n) (h:∀ w',S w' -> ∀ j v,cs[j]? = some v -> Cl w'.heap b (o + j) v) (hk:k (.agg cs.toArray)):EvLdNQ S ⟨b,o,none⟩ n k:=by
 unfold EvLdNQ;refine ⟨cs,hn,fun w' hw j v hj=>?_,hk⟩;have:=(h w' hw j v hj).cell;unfold Addr.add;split
 ·rename_i h0
  subst h0
  simpa using this
 ·exact this
section
variable {w:World} {bg:Nat} {B:BoT} {n:Nat} {at_ er:Int} {X:List Nat}
theorem dP' (h:GtC w bg n at_ er) (left:Nat) (e:Int) :
  CC 78 #[pt bg,iV (left:Int),iV e] w (fun r w'=>r = .returned (.bool (decide (e = 0))) /\ GtC w' bg left at_ e /\ Kp [bg] w w'):=by
 refine oF Tryz.func78 ?_;refine cO (args:=[_,_,_]) 17 [.tmp 6] τok Tryz.func78 ?_;refine st (b:=bg) (o:=0) h (by simp) rfl fun w1 g1 hs1 hk1=>?_;refine st (b:=bg) (o:=2) g1 (by simp) rfl fun w2 g2 hs2 hk2=>?_;exact ⟨rfl,g2,hk1.tq hk2⟩
theorem mc' (hB:GoodB B) (hX:XL X w) (hbg:bg ∈ X) (hG:GtC w bg n at_ er) {t y:Tr} (ht:Ft (QB B) 0 t) (hy:Ft (QB B) 0 y) {vb vt vy:Value} (hvb:BoV (Im X w) B vb) (hvt:TmV (Im X w) t vt) (hvy:TmV (Im X w) y vy) :
  CC 45 #[pt bg,vb,vt,vy] w (fun e w'=>kK' (eS' B t y n) (fun q=>e = .returned (.bool true) /\ GtC w' bg q.2 at_ 0) (fun e'=>e = .returned (.bool false) /\ e' ≠ 0 /\ GtC w' bg 0 at_ e') /\ Kp [bg] w w'):=by
 refine oF Tryz.func45 ?_;unfold eS';have hvv:=hvb;obtain ⟨v1,v2,v3,rfl,hO,hE,hP⟩:=hvb;obtain ⟨at1,ct1,rfl,_,_⟩:=id hvt;obtain ⟨ay,cy,rfl,_,_⟩:=id hvy;have hbw:=hX bg hbg;refine cO (args:=[_,_,_,_]) 43 [.tmp 8] τok Tryz.func45 ?_;refine new fun b5 w1 hb5 h5 hs1 hk1=>?_;have h5:Bk w1.heap b5 [iV B.vars,v1,v2,iV B.nat,v3] 26:=h5;have hb5:b5 = w.heap.size:=hb5;have hG1:GtC w1 bg n at_ er:=Bk.kp hG hk1 (by simp);have up1:∀ b o v,Im X w b o v -> Im X w1 b o v:=fun b o v h=>h.tr hk1;have hX1:=xU hX hk1;refine al' τok (fun z=>Kp [] w1 z) ?_;refine rV τok (rg 0 6) 10 (mR 16 6) (kQd w1) ?_;refine aX' [iV B.vars,v1,v2,iV B.nat,v3] rfl (bZ h5) ?_;refine ldK (Bk.cl hG1 rfl) ?_;refine nV τok 6 9 (mR 16 7) ?_;refine ab' (rd' (w:=(dr w1)) (X:=X) (cx:=[]) (fuel:=(n:Int)) hB (fun i q hq=>by simp at hq) (by simp) hX1 hy (hvv.mono up1) (SV.nil _ _) (hvy.mono up1)) ?_;rintro e w2 ⟨he,hk2⟩;have hk2:Kp [] w1 w2:=hk2.rd;have k02:=hk1.tr hk2;have hG2:GtC w2 bg n at_ er:=Bk.kp hG1 hk2 (by simp);have h52:=h5.kp hk2 (by simp);cases hs:bQ' B [] y (n:Int) with
 | error e' =>
  rw [hs] at he;obtain rfl:=he;have he':e' ≠ 0:=dj' (bz' hB GJ) hs;refine ⟨.inl hk2,?_⟩;refine rV τok (rg 7 9) 0 (mR 16 16) hk2 ?_;refine dV ?_;refine al' τok (fun z=>Kp [bg] w2 z) ?_;refine rV τok [0,1,2] 16 (mR 19 3) ((Kp.refl [bg] w2).dr _) ?_;refine nV τok 3 15 (mR 19 4) ?_;refine ab' (dP' (w:=(dr w2)) hG2 0 e') ?_;rintro r w3 ⟨rfl,hG3,hk3⟩;have hk3:Kp [bg] w2 w3:=hk3.rd;rw [decide_eq_false he'];refine ⟨.inl hk3,?_⟩;refine rV τok (rg 4 8) 7 (mR 19 12) hk3 ?_;refine nV τok 12 6 (mR 19 13) ?_;refine ⟨.inl hk3,?_⟩;refine nV τok 13 5 (mR 19 14) ?_;refine ⟨.inl hk3,?_⟩;refine rV τok [14,15] 3 (mR 19 16) hk3 ?_;refine nV τok 16 2 (mR 19 17) ?_;refine ⟨.inl hk3,?_⟩;refine rV τok [17,18] 0 (mR 19 19) hk3 ?_;refine dV ?_;exact ⟨⟨rfl,he',hG3⟩,(k02.weak (by simp)).tq hk3⟩
 | ok q =>
  rw [hs] at he;obtain ⟨al,cl,rfl,_⟩:=he;refine ⟨.inl hk2,?_⟩;refine rV τok (rg 7 9) 0 (mR 16 16) hk2 ?_;refine dV ?_;refine al' τok (fun z=>Kp [bg] w2 z) ?_;refine rV τok [0,1,2] 16 (mR 19 3) ((Kp.refl [bg] w2).dr _) ?_;refine nV τok 3 15 (mR 19 4) ?_;refine ab' (dP' (w:=(dr w2)) hG2 q.2 0) ?_;rintro r w3 ⟨rfl,hG3,hk3⟩;have hk3:Kp [bg] w2 w3:=hk3.rd;have k03:Kp [bg] w w3:=(k02.weak (by simp)).tq hk3;have up3:∀ b o v,Im X w b o v -> Im X w3 b o v:=fun b o v h=>Im.kb k03 hbg b o v h;have hX3:=xU hX k03;refine ⟨.inl hk3,?_⟩;refine rV τok (rg 4 8) 7 (mR 19 12) hk3 ?_;refine ldNS [iV B.vars,v1,v2,iV B.nat,v3] rfl (fun z hz j v hj=>by rw [Nat.zero_add]; exact (h52.kp hz (by simp; omega)).cl hj) ?_;refine nV τok 12 6 (mR 19 13) ?_;refine ld (Cl.cell (Bk.cl hG3 rfl)) ?_;refine ⟨.inl hk3,?_⟩;refine nV τok 13 5 (mR 19 14) ?_;refine ab' (nY' (w:=w3) (X:=X) (cx:=[]) (fuel:=(q.2:Int)) hB (fun i q hq=>by simp at hq) (by simp) hX3 ht hy (hvv.mono up3) (SV.nil _ _) (hvt.mono up3) (hvy.mono up3)) ?_;rintro e w4 ⟨he,hk4⟩;have k24:Kp [bg] w2 w4:=hk3.tr hk4;have k04:Kp [bg] w w4:=k03.tr hk4;have hG4:GtC w4 bg q.2 at_ 0:=Bk.kp hG3 hk4 (by simp);have hbd:bdJ (.ok q:Except Int ((Int × List Atom) × Nat)) (fun _ n=>bi' B [] t y (n:Int)) = bi' B [] t y (q.2:Int):=rfl;rw [hbd];cases hc:bi' B [] t y (q.2:Int) with
  | error e' =>
   rw [hc] at he;obtain rfl:=he;have he':e' ≠ 0:=dy' (bz' hB GJ) hc;refine ⟨.inl k24,?_⟩;refine rV τok [14,15] 3 (mR 19 16) k24 ?_;refine nV τok 16 2 (mR 19 17) ?_;refine ab' (dP' hG4 0 e') ?_;rintro r w5 ⟨rfl,hG5,hk5⟩;rw [decide_eq_false he'];have k25:Kp [bg] w2 w5:=k24.tq hk5;refine ⟨.inl k25,?_⟩;refine rV τok [17,18] 0 (mR 19 19) k25 ?_;refine dV ?_;exact ⟨⟨rfl,he',hG5⟩,k04.tq hk5⟩
  | ok q2 =>
   rw [hc] at he;obtain rfl:=he;refine ⟨.inl k24,?_⟩;refine rV τok [14,15] 3 (mR 19 16) k24 ?_;refine nV τok 16 2 (mR 19 17) ?_;refine ab' (dP' hG4 q2.2 0) ?_;rintro r w5 ⟨rfl,hG5,hk5⟩;have k25:Kp [bg] w2 w5:=k24.tq hk5;refine ⟨.inl k25,?_⟩;refine rV τok [17,18] 0 (mR 19 19) k25 ?_;refine dV ?_;exact ⟨⟨rfl,hG5⟩,k04.tq hk5⟩
end
section
variable {B B':BoT} {P:Nd -> Prop} {cx:Ctx} {x:Tr}
theorem oy' (y:Tr) (r:List Tr):cx ++ gc' (y :: r) = cx ++ [(y,none)] ++ gc' r:=by simp [gc']
theorem CxP.of (h:CxP P cx) {l:List Tr} (hl:∀ (i:Nat) y,l[i]? = some y -> Ft P ((cx.length + i:Nat):Int) y):CxP P (cx ++ gc' l):=h.app fun i q hq=>by
 unfold gc' at hq;rw [List.getElem?_map] at hq;cases hp:l[i]? with
 | none=>rw [hp] at hq; cases hq
 | some p =>
  rw [hp] at hq;obtain rfl:=Option.some.inj hq;exact ⟨hl i p hp,fun x hx=>by cases hx⟩
theorem nf' (hB:GoodB B) (hA:Agr B B' P):∀ (l:List Tr) (cx:Ctx) (n:Nat),CxP P cx -> cx.length + l.length <= 200 -> (∀ (i:Nat) y,l[i]? = some y -> Ft P ((cx.length + i:Nat):Int) y) -> Eqv (fun c=>c = cx ++ gc' l) (iR' B l cx n) (iR' B' l cx n)
 | [],cx,n,_,_,_=>Eqv.ok (by simp [gc'])
 | a :: r,cx,n,hcx,hl,hy=>by
  simp only [List.length_cons] at hl;simp only [iR'];have ha:Ft P (cx.length:Int) a:=hy 0 a rfl;rw [oy'];exact (eZ' hB hA hcx (by omega) ha n).bd fun q n _ hq=>nf' hB hA r _ n (hcx.snoc ha fun x hx=>by cases hx) (by simp; omega) fun i y hi=>(hy (i + 1) y hi).mono (by simp; omega)
theorem oz' (hB:GoodB B) (hA:Agr B B' P) {e:Int} (hI:tq' B B' P e):∀ (l:List Tr) (cx:Ctx) (n:Nat),CxP P cx -> cx.length + l.length <= 200 -> (∀ (i:Nat) y,l[i]? = some y -> Ft P ((cx.length + i:Nat):Int) y) -> Eqv (fun c=>c = cx ++ gc' l) (fK' B e l cx n) (fK' B' e l cx n)
 | [],cx,n,_,_,_=>Eqv.ok (by simp [gc'])
 | a :: r,cx,n,hcx,hl,hy=>by
  simp only [List.length_cons] at hl;simp only [fK'];have ha:Ft P (cx.length:Int) a:=hy 0 a rfl;rw [oy',hA.vars,hA.ords,hI.sort,hI.params,hI.indices];exact (eZ' hB hA hcx (by omega) ha n).bd fun q n _ hq=>Eqv.ite (fun _=>Eqv.er 21) fun _=>Eqv.ite (fun _=>Eqv.er 20) fun _=>oz' hB hA hI r _ n (hcx.snoc ha fun x hx=>by cases hx) (by simp; omega) fun i y hi=>(hy (i + 1) y hi).mono (by simp; omega)
theorem rH' (hB:GoodB B) (hA:Agr B B' P) {e:Int} (hI:tq' B B' P e) {np:Nat} {go:List Tr} {na:Nat} (hnp:(psM B e).length <= 16) (hql:(qiM B e).length <= 16) (hna:na <= 16) (hcx:CxP P cx) (hc:cx.length = (psM B e).length + na) (hgo:∀ y ∈ go,Ft P (((psM B e).length + na:Nat):Int) y) (hlo:go.length = (qiM B e).length):∀ (l:List Tr) (j n:Nat),j + l.length <= go.length -> (∀ y ∈ l,Ft P (cx.length:Int) y) -> Eqv (fun _=>True) (om' B e go na cx l j n) (om' B' e go na cx l j n)
 | [],j,n,_,_=>Eqv.ok trivial
 | o :: r,j,n,hj,hy=>by
  simp only [List.length_cons] at hj;simp only [om'];have e2:qiM B' e = qiM B e:=by unfold qiM; rw [hI.indices]
  rw [e2];refine Eqv.ite (fun _=>Eqv.er 20) fun _=>((EqE.rfl' fun z hz=>ot' hA.qk hnp hna hI.fi hgo hql hlo (by omega) hz).pu n).bd fun want n _ hw=>?_;exact (gt' hB hA hcx (by omega) (hy o (by simp)) (hw.mono (by omega)) n).bd fun _ n _ _=>rH' hB hA hI (np:=np) hnp hql hna hcx hc hgo hlo r (j + 1) n (by omega) fun y hz=>hy y (by simp [hz])
structure CtA (B:BoT) (P:Nd -> Prop) (e:Int) (c:CtT):Prop where
 la:c.args.length <= 16
 lo:c.out.length = (qiM B e).length
 fa:∀ (i:Nat) y,(c.args.map tr)[i]? = some y -> Ft P (((psM B e).length + i:Nat):Int) y
 fo:∀ y ∈ c.out.map tr,Ft P (((psM B e).length + c.args.length:Nat):Int) y
theorem md' (hB:GoodB B) (hA:Agr B B' P) {e:Int} (hI:tq' B B' P e) (hnp:(psM B e).length <= 16) (hql:(qiM B e).length <= 16) (hcx:CxP P cx) (hc:cx.length = (psM B e).length):∀ (l:List CtT) (n:Nat),(∀ c ∈ l,CtA B P e c) -> Eqv (fun _=>True) (dm' B e cx l n) (dm' B' e cx l n)
 | [],n,_=>Eqv.ok trivial
 | c :: r,n,h=>by
  simp only [dm'];have hC:=h c (by simp);have h1:=hC.la;refine (oz' hB hA hI (c.args.map tr) cx n hcx (by simp; omega) fun i y hi=>(hC.fa i y hi).mono (by omega)).bd fun cx' n _ hcx'=>?_;subst hcx';have hl:(cx ++ gc' (c.args.map tr)).length = (psM B e).length + c.args.length:=by rw [List.length_append,dM',List.length_map,hc]
  refine (rH' hB hA hI (np:=0) hnp hql hC.la (hcx.of fun i y hi=>(hC.fa i y hi).mono (by omega)) hl hC.fo (by rw [List.length_map]; exact hC.lo) _ 0 n (by simp) fun y hy=>(hC.fo y hy).mono (by omega)).bd fun _ n _ _=>?_;exact md' hB hA hI hnp hql hcx hc r n fun c hc=>h c (by simp [hc])
def ph' (B:BoT) (e:Int) (l:List CtT) (n:Nat):Except Int (Unit × Nat) :=
 bdJ (dN' B [] (tr (entD B e).sort) (n:Int)) fun _ n=>bdJ (iR' B (psM B e) [] n) fun cp n=>bdJ (iR' B (qiM B e) cp n) fun _ n=>dm' B e cp l n
theorem vY' (hB:GoodB B) (hA:Agr B B' P) {e:Int} (hI:tq' B B' P e) (hnp:(psM B e).length <= 16) (hql:(qiM B e).length <= 16) (l:List CtT) (h:∀ c ∈ l,CtA B P e c) (n:Nat):ph' B' e l n = ph' B e l n:=by
 have e1:psM B' e = psM B e:=by unfold psM; rw [hI.params]
 have e2:qiM B' e = qiM B e:=by unfold qiM; rw [hI.indices]
 have hn:CxP P []:=fun i q hq=>by simp at hq
 refine (?_:Eqv (fun _=>True) (ph' B e l n) (ph' B' e l n)).1;unfold ph';rw [e1,e2,hI.sort];refine (mV' hB hA hn (by simp) hI.fs n).bd fun _ n _ _=>(nf' hB hA (psM B e) [] n hn (by simp; omega) fun i y hi=>(hI.fp i y hi).mono (by simp)).bd fun cp n _ hcp=>?_;subst hcp;simp only [List.nil_append];have hl:(gc' (psM B e)).length = (psM B e).length:=dM' _;have hcx:CxP P (gc' (psM B e)):=by
  have:=hn.of (l:=psM B e) fun i y hi=>(hI.fp i y hi).mono (by simp)
  simpa using this
 exact (nf' hB hA (qiM B e) _ n hcx (by omega) fun i y hi=>(hI.fi i y hi).mono (by omega)).bd fun _ n _ _=>md' hB hA hI hnp hql hcx hl l n h
end
theorem Ft.wkP {Q R:Nd -> Prop} {N:Int} {x:Tr} (h:Ft Q N x) (hq:∀ m,ah' m = true -> Q m -> R m):Ft R N x:=⟨h.ok,h.len,h.bl,fun m hm=>hq m (iz' x .tm h.ok.1 m hm) (h.al m hm)⟩
theorem rI' {B:BoT} {i:Nat} {x:EnT} (hi:B.ents[i]? = some x) (hk:x.kind = 1) {k:Nat} (h:i < k):dd' B k (i:Int) = true:=by
 simp [dd',cO' hi,hk,h]
section
variable {B B':BoT} {k:Nat} {s:Int}
theorem ff' {i:Nat} (hi:i <= k) {m:Nd} (hp:ah' m = true) (h:aE' B i (-1) m):aE' B k s m:=by
 have h0:=(aT' hp).2.2.1;have:=cN' (s:=-1) (s':=-1) hi (.inl rfl) h
 by_cases h9:m.op = 9
 ·simp only [aE',bd',h9,Bool.or_eq_true,decide_eq_true_eq] at this ⊢
  simp at this ⊢;rcases this with h | h
  ·omega
  ·exact .inr h
 ·simpa [aE',bd',h9] using this
theorem uw' (hB:GoodB B) {i:Nat} (hik:i <= k) {x:EnT} {t:Tr} {ps qi:List Tr} (hi:B.ents[i]? = some x) (hF:GoodF B i x t ps qi) (he1:(entD B' i).sort = (entD B i).sort) (he2:(entD B' i).params = (entD B i).params) (he3:(entD B' i).indices = (entD B i).indices):tq' B B' (aE' B k s) (i:Int):=by
 obtain ⟨e1,e2,e3⟩:=hF.ps_eq hi;refine ⟨he1,he2,he3,?_,?_,?_⟩
 ·rw [e3]
  exact hF.fs.wkP fun m hp hm=>ff' hik hp hm
 ·rw [e1]
  exact fun j y hy=>(hF.fp j y hy).wkP fun m hp hm=>ff' hik hp hm
 ·rw [e1,e2]
  exact fun j y hy=>(hF.fi j y hy).wkP fun m hp hm=>ff' hik hp hm
theorem tK' (hB:GoodB B) (hk:k <= B.ents.length) (hv:B'.vars = B.vars) (ho:B'.orders = B.orders) (he:∀ i:Nat,i < k -> entD B' i = entD B i)
  (hs:s = -1 \/ (s = (k:Int) /\ dd' B B.ents.length k = true /\ (entD B' k).sort = (entD B k).sort /\ (entD B' k).params = (entD B k).params /\ (entD B' k).indices = (entD B k).indices)):Agr B B' (aE' B k s):=by
 refine ⟨qs' B k s,hv,ho,fun m hm=>cN' hk ?_ hm,fun m h8 h9 h10 h11 hm=>?_,fun m hm h8=>?_,fun m hm h9 h0=>?_,fun m hm h=>?_⟩
 ·rcases hs with h | ⟨rfl,h,_⟩
  ·exact .inl h
  ·exact .inr h
 ·simpa [QB,aE',bd',h8,h9,h10,h11] using hm
 ·simp only [aE',bd',h8,Bool.and_eq_true,decide_eq_true_eq] at hm
  simp at hm;obtain ⟨i,hi⟩:∃ i:Nat,m.a = (i:Int):=⟨m.a.toNat,by omega⟩
  rw [hi] at hm ⊢;have hik:i < k:=by omega
  obtain ⟨x,hx,_⟩:=af' (l:=B.ents) (k:=i) (by omega);refine ⟨he i hik,?_⟩;rw [cO' hx] at hm ⊢;rcases hB.ent i x hx with ⟨t,ps,qi,hF⟩ | ⟨ty,bo,hD⟩
  ·have:=hF.kind
   omega
  ·rw [hD.type,hD.body,cM' hD.ft.ok,cM' hD.fb.ok]
   exact ⟨hD.ft.wkP fun m hp hm=>ff' (by omega) hp hm,hD.fb.wkP fun m hp hm=>ff' (by omega) hp hm⟩
 ·simp only [aE',bd',h9,Bool.or_eq_true,decide_eq_true_eq] at hm
  simp at hm
  by_cases hms:m.a = s
  ·rcases hs with h | ⟨rfl,hf,h1,h2,h3⟩
   ·omega
   ·rw [hms]
    obtain ⟨i,x,t,ps,qi,hi0,_,hi,hxD,hF⟩:=hB.fam hf (Nat.le_refl _);obtain rfl:i = k:=by omega
    exact uw' hB (Nat.le_refl _) hi hF h1 h2 h3
  ·have hf:dd' B k m.a = true:=by
    rcases hm with h | h
    ·exact absurd h hms
    ·exact h
   obtain ⟨i,x,t,ps,qi,hi0,hik,hi,hxD,hF⟩:=hB.fam hf hk;rw [hi0];have:=he i hik;exact uw' hB (by omega) hi hF (by rw [this]) (by rw [this]) (by rw [this])
 ·have hf:dd' B k m.a = true:=by
   rcases h with h | h <;> simp only [aE',bd',h,Bool.and_eq_true,decide_eq_true_eq] at hm <;> simp at hm
   ·exact hm.1
   ·exact hm
  obtain ⟨i,x,t,ps,qi,hi0,hik,hi,hxD,hF⟩:=hB.fam hf hk;rw [hi0] at hf ⊢;obtain ⟨e1,e2,e3⟩:=hF.ps_eq hi;refine ⟨he i hik,by simp [aE',bd',hf],fun j hj=>⟨?_,?_⟩⟩
  ·simp only [aE',bd']
   simp [hf];omega
  ·rw [cO' hi] at hj
   obtain ⟨c,hc,_⟩:=af' (l:=x.ctors) (k:=j) hj;obtain ⟨ga,go,hC⟩:=hF.ct j c hc;obtain ⟨e4,e5,e6⟩:=hC.ag_eq hi hc;rw [e1,e4,e5];exact ⟨fun j y hy=>(hC.fa j y hy).wk fun m hm=>cN' (by omega) (.inr hf) hm,fun y hy=>(hC.fo y hy).wk fun m hm=>cN' (by omega) (.inr hf) hm⟩
end
theorem tL' {C:Mem} {B:BoT} {e:Int} {x:EnT} {v2:Value} (hE:SV rEn C B.ents v2) {i:Nat} (hx:B.ents[i]? = some x) :
  ∃ be oe ce,v2 = .slice (some ⟨be,oe,none⟩) B.ents.length ce /\ ∃ u1 u2 u3 u4 u5 u6,(∀ j v,[iV x.kind,u1,u2,u3,u4,u5,u6][j]? = some v -> C be (oe + i * 7 + j) v) /\ SV rNd C x.sort u1 /\ SV (rSk rNd) C x.params u2 /\ SV (rSk rNd) C x.indices u3 /\ SV rCt C x.ctors u4 /\ SV rNd C x.type u5 /\ SV rNd C x.body u6:=by
 obtain ⟨be,oe,ce,rfl,hat⟩:=hE.at hx;obtain ⟨u1,u2,u3,u4,u5,u6,h1,_,h2⟩:=ee' hat;exact ⟨be,oe,ce,rfl,u1,u2,u3,u4,u5,u6,h1,h2⟩
theorem ux' {C:Mem} {x:EnT} {u1 u2 u3 u4 u5 u6:Value} (h1:SV rNd C x.sort u1) (h2:SV (rSk rNd) C x.params u2) (h3:SV (rSk rNd) C x.indices u3) (h4:SV rCt C x.ctors u4) (h5:SV rNd C x.type u5) (h6:SV rNd C x.body u6) :
  ∀ v ∈ [iV x.kind,u1,u2,u3,u4,u5,u6],v.oneCell' = true:=fun v hv=>by
 simp at hv;rcases hv with rfl | rfl | rfl | rfl | rfl | rfl | rfl
 ·rfl
 ·exact h1.one
 ·exact h2.one
 ·exact h3.one
 ·exact h4.one
 ·exact h5.one
 ·exact h6.one
def EtR (w':World) (bg:Nat) (at_:Int) (r:Except Int (Unit × Nat)) (e:Ending):Prop:=kK' r (fun q=>e = .returned (.bool true) /\ GtC w' bg q.2 at_ 0) (fun e'=>e = .returned (.bool false) /\ e' ≠ 0 /\ GtC w' bg 0 at_ e')
section
variable {w:World} {bg:Nat} {B:BoT} {n0:Nat} {at0:Int} {X:List Nat}
theorem jC' (hR:au' B = 0) (hX:XL X w) (hbg:bg ∈ X) (hG:GtC w bg n0 at0 0) {vb:Value} (hvb:BoV (Im X w) B vb) :
  CC 44 #[pt bg,vb] w (fun e w'=>EtR w' bg (eT' B n0) (fM' B n0) e /\ Kp [bg] w w'):=by
 refine oF Tryz.func44 ?_;obtain ⟨RES,hRES⟩:∃ r,fM' B n0 = r:=⟨_,rfl⟩
 obtain ⟨AT,hAT⟩:∃ r,eT' B n0 = r:=⟨_,rfl⟩
 rw [hRES,hAT];unfold fM' at hRES;unfold eT' at hAT;have hB:=dz' hR;obtain ⟨_,hpr⟩:=iF' hR;have hlen:=hB.len;have hvv:=hvb;obtain ⟨v1,v2,v3,rfl,hO,hE,hP⟩:=hvb;obtain ⟨ae,ce,rfl⟩:=hE.len;obtain ⟨ap,cp,rfl,hP1,hP2⟩:=id hP;have hbw:=hX bg hbg;have hpl:=hP1.1;refine cO (args:=[_,_]) 100 [.tmp 4] τok Tryz.func44 ?_;refine new fun b3 w1 hb3 h3 hs1 hk1=>?_;have h3:Bk w1.heap b3 [iV B.vars,v1,.slice ae B.ents.length ce,iV B.nat,.slice ap B.prims.length cp] 26:=h3;have hb3:b3 = w.heap.size:=hb3;have hG1:GtC w1 bg n0 at0 0:=Bk.kp hG hk1 (by simp);refine lb h3 ?_;refine loop τok (σ:=Nat × Nat × Int) (fun q=>[(0,pt bg),(3,pt b3),(14,.slice ae B.ents.length ce),(15,iV (B.ents.length:Int)),(16,iV (q.1:Int))])
  (fun q w'=>q.1 <= B.ents.length /\ cW' B B.ents 0 n0 = cW' B (B.ents.drop q.1) q.1 q.2.1 /\ gK' B B.ents 0 n0 = gK' B (B.ents.drop q.1) q.1 q.2.1 /\ GtC w' bg q.2.1 q.2.2 0 /\ Kp [bg] w1 w') (fun q=>B.ents.length - q.1) (0,n0,at0) ⟨rfl,rfl,rfl,rfl,rfl,trivial⟩
  ⟨Nat.zero_le _,rfl,rfl,hG1,Kp.refl _ _⟩ ?_
 rintro ⟨i,n,a0⟩ w2 ⟨hi,hr,ha,hG2,k12⟩;simp only at hi hr ha hG2;have k02:Kp [bg] w w2:=(hk1.weak (by simp)).tq k12;have h32:=h3.kp k12 (by simp; omega);refine ac' (fun c=>?_) (fun c=>?_)
 ·have hlt:i < B.ents.length:=by
   have:(i:Int) < B.ents.length:=c;omega
  obtain ⟨x,hx,hd⟩:=af' hlt;rw [hd] at hr ha;simp only [cW'] at hr;simp only [gK'] at ha;have hxD:entD B (i:Int) = x:=cO' hx;obtain ⟨be,oe,ce',e1,u1,u2,u3,u4,u5,u6,hcs,s1,s2,s3,s4,s5,s6⟩:=tL' (e:=0) hE hx;injection e1 with e1 _ e2
  subst e1 e2;have hone:=ux' s1 s2 s3 s4 s5 s6;have up2:∀ b o v,Im X w b o v -> Im X w2 b o v:=fun b o v h=>Im.kb k02 hbg b o v h;have hX2:=xU hX k02;refine ix i rfl hlt ?_;refine ldN [iV x.kind,u1,u2,u3,u4,u5,u6] rfl (fun j v hj=>(up2 _ _ _ (hcs j v hj)).1) ?_;refine new fun b6 w3 hb6 h6 hs3 hk3=>?_;refine stN (vs:=[iV x.kind,u1,u2,u3,u4,u5,u6]) h6 rfl hone fun w4 h6 hs4 hk4=>?_;have k24:=hk3.newSt hb6 hk4;have hb6:b6 = w2.heap.size:=hb6;have hG4:GtC w4 bg n a0 0:=Bk.kp hG2 k24 (by simp);have l12:=k12.size;have l02:=k02.size;refine st (b:=bg) (o:=1) hG4 (by simp) rfl fun w5 hG5 hs5 hk5=>?_;have hG5:GtC w5 bg n (i:Int) 0:=hG5;have k25:Kp [bg] w2 w5:=(k24.weak (by simp)).tq hk5;have k05:Kp [bg] w w5:=k02.tq k25;have h65:=h6.kp hk5 (by simp; omega);have h35:=h32.kp k25 (by simp; omega);have up5:∀ b o v,Im X w b o v -> Im X w5 b o v:=fun b o v h=>Im.kb k05 hbg b o v h;have hX5:=xU hX k05;have fin:∀ {e':Int} {w':World},pg' B x i n = .error e' -> e' ≠ 0 -> GtC w' bg 0 (i:Int) e' -> Kp [bg] w w' -> EtR w' bg AT RES (.returned (.bool false)) /\ Kp [bg] w w':=fun {e' w'} h he hg k=>by
   rw [h] at hr ha;have hr:cW' B B.ents 0 n0 = .error e':=hr;have ha:gK' B B.ents 0 n0 = (i:Int):=ha;rw [hr] at hRES hAT;have hRES:.error e' = RES:=hRES;have hAT:gK' B B.ents 0 n0 = AT:=hAT;subst hRES;rw [ha] at hAT;subst hAT;exact ⟨⟨rfl,he,hg⟩,k⟩
  have nxt:∀ {q:Unit × Nat},pg' B x i n = .ok q -> cW' B B.ents 0 n0 = cW' B (B.ents.drop (i + 1)) (i + 1) q.2 /\ gK' B B.ents 0 n0 = gK' B (B.ents.drop (i + 1)) (i + 1) q.2:=fun {q} h=>by
   rw [h] at hr ha;exact ⟨hr,ha⟩
  refine lb h65 ?_;refine ac' (fun g=>?_) (fun g=>?_)
  ·have g:x.kind = 1:=g
   have hJ:pg' B x i n = gw' B (i:Int) (n:Int):=by unfold pg'; rw [if_pos g]
   refine al' τok (fun z=>Kp [bg] w5 z) ?_;refine rV τok (rg 0 6) 6 (mR 12 6) ((Kp.refl [bg] w5).dr _) ?_;refine ldNS [iV B.vars,v1,.slice (some ⟨be,oe,none⟩) B.ents.length ce,iV B.nat,.slice ap B.prims.length cp] rfl (fun z hz j v hj=>by rw [Nat.zero_add]; exact (h35.kp hz (by simp; omega)).cl hj) ?_;refine nV τok 6 5 (mR 12 7) ?_;refine ld (Cl.cell (Bk.cl hG5 rfl)) ?_;refine ⟨.inl ((Kp.refl [bg] w5).dr _),?_⟩;refine nV τok 7 4 (mR 12 8) ?_;refine ab' (nc' (w:=(dr w5)) (C:=Im X w5) (en:=(i:Int)) (Im.sub X w5) (fun _ _ _ h=>h.hold) (hvv.mono up5) (n:Int)) ?_;rintro e w6 ⟨he,hk6⟩;have hk6:Kp [] w5 w6:=hk6.rd;have k56:Kp [bg] w5 w6:=hk6.weak (by simp);have hG6:GtC w6 bg n (i:Int) 0:=Bk.kp hG5 hk6 (by simp);have k06:Kp [bg] w w6:=k05.tr hk6;cases hf:gw' B (i:Int) (n:Int) with
   | error e' =>
    rw [hf] at he;obtain ⟨rfl,he'⟩:=he;refine ⟨.inl k56,?_⟩;refine rV τok [8,9] 2 (mR 12 10) k56 ?_;refine nV τok 10 1 (mR 12 11) ?_;refine ab' (dP' hG6 0 e') ?_;rintro r w7 ⟨rfl,hG7,hk7⟩;have k57:Kp [bg] w5 w7:=k56.tq hk7;refine ⟨.inl k57,?_⟩;refine rV τok [11] 0 (mR 12 12) k57 ?_;refine dV ?_;refine dn' (fun h=>absurd h he') (fun _=>?_);exact fin (hJ.trans hf) he' hG7 (k06.tq hk7)
   | ok q =>
    rw [hf] at he;obtain rfl:=he;refine ⟨.inl k56,?_⟩;refine rV τok [8,9] 2 (mR 12 10) k56 ?_;refine nV τok 10 1 (mR 12 11) ?_;refine ab' (dP' hG6 q.2 0) ?_;rintro r w7 ⟨rfl,hG7,hk7⟩;have k57:Kp [bg] w5 w7:=k56.tq hk7;refine ⟨.inl k57,?_⟩;refine rV τok [11] 0 (mR 12 12) k57 ?_;refine dV ?_;obtain ⟨q1,q2⟩:=nxt (hJ.trans hf);refine i6 ?_;exact ⟨(i + 1,q.2,(i:Int)),by simp only; omega,rfl,⟨rfl,rfl,rfl,rfl,rfl,trivial⟩,hlt,q1,q2,hG7,(k12.tq k25).tq k57⟩
  ·have g:¬ x.kind = 1:=g
   have hJ:pg' B x i n = eS' B (tr x.body) (tr x.type) n:=by unfold pg'; rw [if_neg g]
   obtain ⟨ty,bo,hD⟩:∃ ty bo,sN' B i x ty bo:=by
    rcases hB.ent i x hx with ⟨s,ps,qi,h⟩ | h
    ·exact absurd h.kind g
    ·exact h
   have hty:tr x.type = ty:=by rw [hD.type]; exact cM' hD.ft.ok
   have hbo:tr x.body = bo:=by rw [hD.body]; exact cM' hD.fb.ok
   rw [hty,hbo] at hJ;have hFt:Ft (QB B) 0 ty:=hD.ft.wk fun m hm=>dq' (Nat.le_of_lt hlt) hm;have hFb:Ft (QB B) 0 bo:=hD.fb.wk fun m hm=>dq' (Nat.le_of_lt hlt) hm;have s5':TmV (Im X w) ty u5:=by
    have:=s5;rw [hD.type] at this;exact this
   have s6':TmV (Im X w) bo u6:=by
    have:=s6;rw [hD.body] at this;exact this
   refine ldN [iV B.vars,v1,.slice (some ⟨be,oe,none⟩) B.ents.length ce,iV B.nat,.slice ap B.prims.length cp] rfl (bZ h35) ?_;refine lb h65 ?_;refine lb h65 ?_;refine ab' (mc' (w:=w5) hB hX5 hbg hG5 hFb hFt (hvv.mono up5) (s6'.mono up5) (s5'.mono up5)) ?_;rintro e w6 ⟨he,hk6⟩;have k06:Kp [bg] w w6:=k05.tq hk6;cases hf:eS' B bo ty n with
   | error e' =>
    rw [hf] at he;obtain ⟨rfl,he',hG6⟩:=he;exact fin (hJ.trans hf) he' hG6 k06
   | ok q =>
    rw [hf] at he;obtain ⟨rfl,hG6⟩:=he;obtain ⟨q1,q2⟩:=nxt (hJ.trans hf);refine i6 ?_;exact ⟨(i + 1,q.2,(i:Int)),by simp only; omega,rfl,⟨rfl,rfl,rfl,rfl,rfl,trivial⟩,hlt,q1,q2,hG6,(k12.tq k25).tq hk6⟩
 have c:¬ (i:Int) < B.ents.length:=c;rw [List.drop_eq_nil_of_le (by omega)] at hr;have hr:cW' B B.ents 0 n0 = .ok ((),n):=hr;rw [hr] at hRES hAT;have hRES:(if bv' B B.prims = none then .ok ((),n) else .error 22) = RES:=hRES;have hAT:(bv' B B.prims).getD (B.ents.length:Int) = AT:=hAT;have l12:=k12.size;refine lb h32 ?_;refine loop τok (σ:=Nat × Int) (fun q=>[(0,pt bg),(3,pt b3),(50,.slice ap B.prims.length cp),(51,iV (B.prims.length:Int)),(52,iV (q.1:Int))])
  (fun q w'=>q.1 <= B.prims.length /\ bv' B B.prims = bv' B (B.prims.drop q.1) /\ GtC w' bg n q.2 0 /\ Kp [bg] w2 w') (fun q=>B.prims.length - q.1) (0,a0) ⟨rfl,rfl,rfl,rfl,rfl,trivial⟩
  ⟨Nat.zero_le _,rfl,hG2,Kp.refl _ _⟩ ?_
 rintro ⟨k,a1⟩ w3 ⟨hk,hr,hG3,k23⟩;simp only at hk hr hG3;have k03:Kp [bg] w w3:=k02.tq k23;have h33:=h32.kp k23 (by simp; omega);have l03:=k03.size;have l23:=k23.size;refine ac' (fun c=>?_) (fun c=>?_)
 ·have hlt:k < B.prims.length:=by
   have:(k:Int) < B.prims.length:=c;omega
  obtain ⟨p,hp,hd⟩:=af' hlt;rw [hd] at hr;simp only [bv'] at hr;obtain ⟨p0,p1,pk⟩:=hpr p (List.mem_of_getElem? hp);obtain ⟨bp,op,rfl,hcp⟩:=hP1.at hlt;obtain ⟨cs,⟨rfl,i1,i2⟩,hcc⟩:=hcp k p hp;obtain ⟨be,oe,ce',e1,u1,u2,u3,u4,u5,u6,hcs,s1,s2,s3,s4,s5,s6⟩:=kE' (e:=p.1) hE p0 p1;injection e1 with e1 _ e2
  subst e1 e2;have hone:=ux' s1 s2 s3 s4 s5 s6;obtain ⟨a5,c5,rfl,s51,s52⟩:=id s5;obtain ⟨a6,c6,rfl,s61,s62⟩:=id s6;have up3:∀ b o v,Im X w b o v -> Im X w3 b o v:=fun b o v h=>Im.kb k03 hbg b o v h;refine ix k rfl hlt ?_;refine ldN [iV p.1,iV p.2] rfl (fun j v hj=>(up3 _ _ _ (hcc j v hj)).1) ?_;refine new fun b8 w4 hb8 h8 hs4 hk4=>?_;refine stN (vs:=[iV p.1,iV p.2]) h8 rfl (by simp [Value.oneCell']) fun w5 h8 hs5 hk5=>?_;have k35:=hk4.newSt hb8 hk5;have hb8:b8 = w3.heap.size:=hb8;have hG5:GtC w5 bg n a1 0:=Bk.kp hG3 k35 (by simp);refine lb h8 ?_;refine st (b:=bg) (o:=1) hG5 (by simp) rfl fun w6 hG6 hs6 hk6=>?_;have hG6:GtC w6 bg n p.1 0:=hG6;have k36:Kp [bg] w3 w6:=(k35.weak (by simp)).tq hk6;have k06:Kp [bg] w w6:=k03.tq k36;have h86:=h8.kp hk6 (by simp; omega);have h36:=h33.kp k36 (by simp; omega);have up6:∀ b o v,Im X w b o v -> Im X w6 b o v:=fun b o v h=>Im.kb k06 hbg b o v h;refine ldN [iV B.vars,v1,.slice (some ⟨be,oe,none⟩) B.ents.length ce,iV B.nat,.slice (some ⟨bp,op,none⟩) B.prims.length cp] rfl (bZ h36) ?_;refine lb h86 ?_;refine ab' (rG' (w:=w6) (C:=Im X w6) (Im.sub X w6) (fun _ _ _ h=>h.hold) (hvv.mono up6) p.2) ?_;rintro e w7 ⟨he,hk7⟩;have k07:Kp [bg] w w7:=k06.tr hk7;have hG7:GtC w7 bg n p.1 0:=Bk.kp hG6 hk7 (by simp);have h37:=h36.kp hk7 (by simp);have h87:=h86.kp hk7 (by simp);have up7:∀ b o v,Im X w b o v -> Im X w7 b o v:=fun b o v h=>Im.kb k07 hbg b o v h;have hpo:iG' B p = match ne' B p.2 with
   | .error _=>false
   | .ok q=>decide (q.1 = (entD B p.1).type) && decide (q.2 = (entD B p.1).body):=rfl
  cases hpm:ne' B p.2 with
  | error er =>
   rw [hpm] at he hpo;obtain ⟨rfl,her⟩:=he;have hpo:iG' B p = false:=hpo;refine lb h37 ?_;refine lb h87 ?_;refine ix p.1.toNat (by omega) (by omega) ?_;refine ldN [iV (entD B p.1).kind,u1,u2,u3,u4,.slice a5 (entD B p.1).type.length c5,.slice a6 (entD B p.1).body.length c6] rfl (fun j v hj=>(up7 _ _ _ (hcs j v hj)).1) ?_;refine new fun b12 w8 hb12 h12 hs8 hk8=>?_;refine stN (vs:=[iV (entD B p.1).kind,u1,u2,u3,u4,.slice a5 (entD B p.1).type.length c5,.slice a6 (entD B p.1).body.length c6]) h12 rfl hone fun w9 h12 hs9 hk9=>?_;have k79:=hk8.newSt hb12 hk9;have hG9:GtC w9 bg n p.1 0:=Bk.kp hG7 k79 (by simp);have k09:Kp [bg] w w9:=k07.tr k79;refine as' (p:=er ≠ 0) her ?_;have hbad:bv' B B.prims = some p.1:=by rw [hr]; rw [if_neg (by rw [hpo]; decide)]
   refine ab' (dP' hG9 0 22) ?_;rintro r wz ⟨rfl,hGz,hkz⟩;rw [hbad] at hRES hAT;have hRES:.error 22 = RES:=hRES;have hAT:p.1 = AT:=hAT;subst hRES hAT;exact ⟨⟨rfl,by decide,hGz⟩,(k09).tq hkz⟩
  | ok q =>
   rw [hpm] at he hpo;obtain ⟨vt,vu,rfl,hvt,hvu⟩:=he;have hpo:iG' B p = (decide (q.1 = (entD B p.1).type) && decide (q.2 = (entD B p.1).body)):=hpo;obtain ⟨at1,ct1,rfl,ht1,ht2⟩:=id hvt;obtain ⟨au1,cu1,rfl,hu1,hu2⟩:=id hvu;refine lb h37 ?_;refine lb h87 ?_;refine ix p.1.toNat (by omega) (by omega) ?_;refine ldN [iV (entD B p.1).kind,u1,u2,u3,u4,.slice a5 (entD B p.1).type.length c5,.slice a6 (entD B p.1).body.length c6] rfl (fun j v hj=>(up7 _ _ _ (hcs j v hj)).1) ?_;refine new fun b12 w8 hb12 h12 hs8 hk8=>?_;refine stN (vs:=[iV (entD B p.1).kind,u1,u2,u3,u4,.slice a5 (entD B p.1).type.length c5,.slice a6 (entD B p.1).body.length c6]) h12 rfl hone fun w9 h12 hs9 hk9=>?_;have k79:=hk8.newSt hb12 hk9;have hG9:GtC w9 bg n p.1 0:=Bk.kp hG7 k79 (by simp);have k09:Kp [bg] w w9:=k07.tr k79;refine lb h12 ?_;have up9:∀ b o v,Im X w b o v -> Im X w9 b o v:=fun b o v h=>Im.kb k09 hbg b o v h;refine ab' (gT' (w:=w9) (C:=Im [] w9) (D:=Im X w9) (Im.sub [] w9) (Im.sub X w9) q.1 (entD B p.1).type at1 a5 ct1 c5 (ht1.mono fun _ _ _ h=>h.tr k79) (s51.mono up9)) ?_;rintro r wA ⟨rfl,hkA⟩;have hGA:GtC wA bg n p.1 0:=Bk.kp hG9 hkA (by simp);have k0A:Kp [bg] w wA:=k09.tr hkA;refine dn' (fun g=>?_) (fun g=>?_)
   ·refine lb (h12.kp hkA (by simp)) ?_
    have upA:∀ b o v,Im X w b o v -> Im X wA b o v:=fun b o v h=>Im.kb k0A hbg b o v h;refine ab' (gT' (w:=wA) (C:=Im [] wA) (D:=Im X wA) (Im.sub [] wA) (Im.sub X wA) q.2 (entD B p.1).body au1 a6 cu1 c6 ((hu1.mono fun _ _ _ h=>h.tr k79).mono fun _ _ _ h=>h.tr hkA) (s61.mono upA)) ?_;rintro r wB ⟨rfl,hkB⟩;have hGB:GtC wB bg n p.1 0:=Bk.kp hGA hkB (by simp);have k0B:Kp [bg] w wB:=k0A.tr hkB;refine dn' (fun g2=>?_) (fun g2=>?_)
    ·have hok:iG' B p = true:=by rw [hpo,decide_eq_true g,decide_eq_true g2]; rfl
     rw [if_pos hok] at hr;refine i6 ?_;exact ⟨(k + 1,p.1),by simp only; omega,rfl,⟨rfl,rfl,rfl,rfl,rfl,trivial⟩,hlt,hr,hGB,((((k23.tq k36).tr hk7).tr k79).tr hkA).tr hkB⟩
    ·have hpo:iG' B p = false:=by rw [hpo,decide_eq_false g2]; simp
     have hbad:bv' B B.prims = some p.1:=by rw [hr]; rw [if_neg (by rw [hpo]; decide)]
     refine ab' (dP' hGB 0 22) ?_;rintro r wz ⟨rfl,hGz,hkz⟩;rw [hbad] at hRES hAT;have hRES:.error 22 = RES:=hRES;have hAT:p.1 = AT:=hAT;subst hRES hAT;exact ⟨⟨rfl,by decide,hGz⟩,(k0B).tq hkz⟩
   ·have hpo:iG' B p = false:=by rw [hpo,decide_eq_false g]; rfl
    have hbad:bv' B B.prims = some p.1:=by rw [hr]; rw [if_neg (by rw [hpo]; decide)]
    refine ab' (dP' hGA 0 22) ?_;rintro r wz ⟨rfl,hGz,hkz⟩;rw [hbad] at hRES hAT;have hRES:.error 22 = RES:=hRES;have hAT:p.1 = AT:=hAT;subst hRES hAT;exact ⟨⟨rfl,by decide,hGz⟩,(k0A).tq hkz⟩
 have c:¬ (k:Int) < B.prims.length:=c;rw [List.drop_eq_nil_of_le (by omega)] at hr;have hr:bv' B B.prims = none:=hr;rw [hr] at hRES hAT;have hRES:.ok ((),n) = RES:=hRES;have hAT:(B.ents.length:Int) = AT:=hAT;subst hRES hAT;refine lb h33 ?_;refine st (b:=bg) (o:=1) hG3 (by simp) rfl fun w4 hG4 hs4 hk4=>?_;have hG4:GtC w4 bg n (B.ents.length:Int) 0:=hG4;exact ⟨⟨rfl,hG4⟩,k03.tq hk4⟩
end
structure PrT where
 book:BoT
 main:List Nd
 type:List Nd
def PrV (C:Mem) (x:PrT) (v:Value):Prop:=∃ v1 v2 v3 vm vt,v = .agg #[iV x.book.vars,v1,v2,iV x.book.nat,v3,vm,vt] /\ SV rOr C x.book.orders v1 /\ SV rEn C x.book.ents v2 /\ SV rPr C x.book.prims v3 /\ SV rNd C x.main vm /\ SV rNd C x.type vt
def rJ' (x:PrT) (n:Nat):Except Int (Unit × Nat):=bdJ (fM' x.book n) fun _ n=>eS' x.book (tr x.main) (tr x.type) n
def rK' (x:PrT) (fuel:Int):Except Int (Unit × Nat):=if br' x.book 0 x.main ≠ 0 then .error (br' x.book 0 x.main) else if br' x.book 0 x.type ≠ 0 then .error (br' x.book 0 x.type) else rJ' x (aD' fuel)
def me' (x:PrT) (fuel:Int):Int:=if br' x.book 0 x.main ≠ 0 then 0 else if br' x.book 0 x.type ≠ 0 then 0 else eT' x.book (aD' fuel)
def AnR (at_:Int) (r:Except Int (Unit × Nat)) (e:Ending):Prop:=kK' r (fun q=>e = .returned (.tuple #[iV at_,iV (q.2:Int),iV 0])) (fun er=>e = .returned (.tuple #[iV at_,iV 0,iV er]) /\ er ≠ 0)
section
variable {w:World} {bg:Nat} {n:Nat} {at_ er:Int}
theorem oA' (fuel:Int) (w:World) :
  CC 43 #[iV fuel] w (fun e w'=>∃ b,e = .returned (pt b) /\ b = w.heap.size /\ GtC w' b (aD' fuel) 0 0 /\ Kp [] w w'):=by
 refine oF Tryz.func43 ?_;refine cO (args:=[_]) 8 [.tmp 2] τok Tryz.func43 ?_;refine mk' ?_;refine kV' ?_;obtain ⟨n,hn,hn1⟩:∃ n:Nat,min (max fuel 0) 100000 = (n:Int) /\ aD' fuel = n:=⟨_,by unfold aD'; omega,rfl⟩
 rw [hn,hn1];refine new fun b w1 hb hB hs hk=>?_;exact ⟨b,rfl,hb,hB,hk⟩
theorem eq' (hG:GtC w bg n at_ er) :
  CC 46 #[pt bg] w (fun e w'=>e = .returned (.tuple #[iV at_,iV (n:Int),iV er]) /\ Kp [] w w'):=by
 refine oF Tryz.func46 ?_;refine cO (args:=[_]) 17 [.tmp 2,.tmp 3,.tmp 4] τok Tryz.func46 ?_;refine al' τok (fun z=>Kp [] w z) ?_;refine rV τok (rg 0 15) 0 (mR 15 15) (kQd w) ?_;refine ldK (Bk.cl hG rfl) ?_;refine ldK (Bk.cl hG rfl) ?_;refine ldK (Bk.cl hG rfl) ?_;refine dV ?_;exact ⟨rfl,(Kp.refl [] w).dr _⟩
theorem jD' {C:Mem} (hS:Sub C w) (hold:∀ b o v,C b o v -> b < w.heap.size) {x:PrT} {v:Value} (hv:PrV C x v) (fuel:Int) :
  CC 20 #[v,iV fuel] w (fun e w'=>AnR (me' x fuel) (rK' x fuel) e /\ Kp [] w w'):=by
 refine oF Tryz.func20 ?_;obtain ⟨RES,hRES⟩:∃ r,rK' x fuel = r:=⟨_,rfl⟩
 obtain ⟨AT,hAT⟩:∃ r,me' x fuel = r:=⟨_,rfl⟩
 rw [hRES,hAT];unfold rK' at hRES;unfold me' at hAT;obtain ⟨v1,v2,v3,vm,vt,rfl,hO,hE,hP,hM,hT⟩:=hv;have hbo:BoV C x.book (.agg #[iV x.book.vars,v1,v2,iV x.book.nat,v3]):=⟨v1,v2,v3,rfl,hO,hE,hP⟩
 obtain ⟨am,cm,rfl,hM1,hM2⟩:=id hM;obtain ⟨at1,ct1,rfl,hT1,hT2⟩:=id hT;refine cO (args:=[_,_]) 48 [.tmp 4,.tmp 5,.tmp 6] τok Tryz.func20 ?_;refine new fun b2 w1 hb2 h2 hs1 hk1=>?_;have h2:Bk w1.heap b2 [iV x.book.vars,v1,v2,iV x.book.nat,v3,.slice am x.main.length cm,.slice at1 x.type.length ct1] 53:=h2;refine lb h2 ?_;refine lb h2 ?_;refine fill [.slice am x.main.length cm,.slice at1 x.type.length ct1] rfl ?_;refine new fun b15 w2 hb15 h15 hs2 hk2=>?_;have h15:Bk w2.heap b15 [.slice am x.main.length cm,.slice at1 x.type.length ct1] 35:=h15;have k02:=hk1.tr hk2;have h2:=h2.kp hk2 (by simp);have bk5:∀ {w':World},Bk w'.heap b2 [iV x.book.vars,v1,v2,iV x.book.nat,v3,.slice am x.main.length cm,.slice at1 x.type.length ct1] 53 -> ∀ j u,[iV x.book.vars,v1,v2,iV x.book.nat,v3][j]? = some u -> Cl w'.heap b2 (0 + j) u:=fun {w'} h j u hj=>by
  refine h.cl ?_;rw [Nat.zero_add]
  match j,hj with
  | 0,hj=>exact hj
  | 1,hj=>exact hj
  | 2,hj=>exact hj
  | 3,hj=>exact hj
  | 4,hj=>exact hj
  | j + 5,hj=>cases hj
 refine loop τok (σ:=Nat) (fun k=>[(1,iV fuel),(2,pt b2),(15,.slice (some ⟨b15,0,none⟩) 2 2),(16,iV 2),(17,iV (k:Int))])
  (fun k w'=>k <= 2 /\ (0 < k -> br' x.book 0 x.main = 0) /\ (1 < k -> br' x.book 0 x.type = 0) /\ Kp [] w2 w') (fun k=>2 - k) 0 ⟨rfl,rfl,rfl,rfl,rfl,trivial⟩ ⟨by omega,fun h=>by omega,fun h=>by omega,Kp.refl _ _⟩ ?_
 rintro k w3 ⟨hk,q1,q2,k23⟩;have k03:=k02.tr k23;have h23:=h2.kp k23 (by simp);have h153:=h15.kp k23 (by simp);refine ac' (fun c=>?_) (fun c=>?_)
 ·have c:(k:Int) < 2:=c
  match k,c,q1,q2 with
  | 0,_,q1,q2 =>
   refine ix 0 rfl (by omega) ?_;refine lb h153 ?_;refine ldN [iV x.book.vars,v1,v2,iV x.book.nat,v3] rfl (bk5 h23) ?_;refine ab' (og' (w:=w3) (C:=C) (hS.tr k03) (Kp.hold k03 hold) hbo hM (below:=0) ⟨by simp,by simp⟩) ?_;rintro e w4 ⟨rfl,hk4⟩
   by_cases g:br' x.book 0 x.main ≠ 0
   ·rw [if_pos g] at hRES hAT
    subst hRES hAT;refine as' g ?_;exact ⟨⟨rfl,g⟩,k03.tr hk4⟩
   refine bS' g ?_;have g:br' x.book 0 x.main = 0:=Decidable.not_not.1 g;refine i6 ?_;exact ⟨1,by omega,rfl,⟨rfl,rfl,rfl,rfl,rfl,trivial⟩,by omega,fun _=>g,fun h=>by omega,k23.tr hk4⟩
  | 1,_,q1,q2 =>
   have g0:=q1 (by omega);rw [if_neg (by rw [g0]; simp)] at hRES hAT;refine ix 1 rfl (by omega) ?_;refine lb h153 ?_;refine ldN [iV x.book.vars,v1,v2,iV x.book.nat,v3] rfl (bk5 h23) ?_;refine ab' (og' (w:=w3) (C:=C) (hS.tr k03) (Kp.hold k03 hold) hbo hT (below:=0) ⟨by simp,by simp⟩) ?_;rintro e w4 ⟨rfl,hk4⟩
   by_cases g:br' x.book 0 x.type ≠ 0
   ·rw [if_pos g] at hRES hAT
    subst hRES hAT;refine as' g ?_;exact ⟨⟨rfl,g⟩,k03.tr hk4⟩
   refine bS' g ?_;have g:br' x.book 0 x.type = 0:=Decidable.not_not.1 g;refine i6 ?_;exact ⟨2,by omega,rfl,⟨rfl,rfl,rfl,rfl,rfl,trivial⟩,by omega,fun _=>g0,fun _=>g,k23.tr hk4⟩
  | k + 2,c,_,_=>omega
 have c:¬ (k:Int) < 2:=c;have f1:=q1 (by omega);have f2:=q2 (by omega);rw [if_neg (by rw [f1]; simp),if_neg (by rw [f2]; simp)] at hRES hAT;obtain ⟨eM,hFm⟩:=od' (by omega) f1;obtain ⟨eT,hFt⟩:=od' (by omega) f2;have hR:au' x.book = 0:=by
  unfold br' at f1;split at f1
  ·rename_i g; exact absurd f1 g
  ·rename_i g; exact Decidable.not_not.1 g
 have hB:=dz' hR;refine ab' (oA' fuel w3) ?_;rintro e w4 ⟨bg,rfl,hbg,hG4,hk4⟩;have k04:=k03.tr hk4;have h24:=h23.kp hk4 (by simp);have l03:=k03.size;have hbl:=Bk.lt hG4;have up4:∀ b o v,C b o v -> Im [bg] w4 b o v:=fun b o v h=>⟨hS.tr k04 _ _ _ h,fun hm=>by
  have:=hold _ _ _ h;simp at hm;omega⟩
 have hX4:∀ b ∈ [bg],b < w4.heap.size:=fun b hb=>by
  obtain rfl:b = bg:=by simpa using hb
  exact hbl
 have l4:=h24.lt;have hbb:b2 ≠ bg:=by
  have:=h23.lt;omega
 refine ldN [iV x.book.vars,v1,v2,iV x.book.nat,v3] rfl (bk5 h24) ?_;refine ab' (jC' (w:=w4) hR hX4 (by simp) hG4 (hbo.mono up4)) ?_;rintro e w5 ⟨he,k45⟩;have h25:=h24.kp k45 (by simpa using hbb);have k05:Kp [] w w5:=k04.trans k45 fun y hy hl=>by
  simp at hy;omega
 unfold EtR at he;cases hg:fM' x.book (aD' fuel) with
 | error e' =>
  rw [hg] at he;obtain ⟨rfl,he',hG5⟩:=he;have hr:rJ' x (aD' fuel) = .error e':=by unfold rJ'; rw [hg]; rfl
  rw [hr] at hRES;subst hRES hAT;refine ab' (eq' hG5) ?_;rintro e w6 ⟨rfl,hk6⟩;exact ⟨⟨rfl,he'⟩,k05.tr hk6⟩
 | ok q =>
  rw [hg] at he;obtain ⟨rfl,hG5⟩:=he;have hr:rJ' x (aD' fuel) = eS' x.book (tr x.main) (tr x.type) q.2:=by unfold rJ'; rw [hg]; rfl
  rw [hr] at hRES;have up5:∀ b o v,C b o v -> Im [bg] w5 b o v:=fun b o v h=>Im.kb k45 (by simp) b o v (up4 _ _ _ h);have hX5:∀ b ∈ [bg],b < w5.heap.size:=xU hX4 k45;refine ldN [iV x.book.vars,v1,v2,iV x.book.nat,v3] rfl (bk5 h25) ?_;refine lb h25 ?_;refine lb h25 ?_;have hMv:TmV (Im [bg] w5) (tr x.main) (.slice am x.main.length cm):=by unfold TmV; rw [<- eM]; exact hM.mono up5
  have hTv:TmV (Im [bg] w5) (tr x.type) (.slice at1 x.type.length ct1):=by unfold TmV; rw [<- eT]; exact hT.mono up5
  refine ab' (mc' (w:=w5) hB hX5 (by simp) hG5 hFm hFt (hbo.mono up5) hMv hTv) ?_;rintro e w6 ⟨he,k56⟩;have k06:Kp [] w w6:=k05.trans k56 fun y hy hl=>by
   simp at hy;omega
  cases hh:eS' x.book (tr x.main) (tr x.type) q.2 with
  | error e' =>
   rw [hh] at he hRES;obtain ⟨rfl,he',hG6⟩:=he;subst hRES hAT;refine ab' (eq' hG6) ?_;rintro e w7 ⟨rfl,hk7⟩;exact ⟨⟨rfl,he'⟩,k06.tr hk7⟩
  | ok q2 =>
   rw [hh] at he hRES;obtain ⟨rfl,hG6⟩:=he;subst hRES hAT;refine ab' (eq' hG6) ?_;rintro e w7 ⟨rfl,hk7⟩;exact ⟨rfl,k06.tr hk7⟩
end
def rT:List Nd:=[⟨2,1,1⟩,⟨3,0,0⟩]
def rI:List Nd:=[⟨9,0,0⟩]
def rX:List Nd:=[⟨4,0,0⟩,⟨9,0,0⟩,⟨9,0,0⟩]
def enB (r:List Nd):EnT:={ kind:=1,sort:=rT,params:=[],indices:=[],ctors:=[⟨[],[]⟩,⟨[r],[]⟩],type:=[],body:=[] }
def BN (r:List Nd) (nat:Int):BoT:=⟨0,[],[enB r],nat,[]⟩
def kM' (lim:Int):List (List Nd) -> Int -> Int
 | [],a=>a
 | l :: r,a=>if a < lim then kM' lim r (a + 1 + (l.length:Int)) else a
def szC (lim:Int):List CtT -> Int -> Int
 | [],a=>a
 | c :: r,a=>if a < lim then szC lim r (a + 1 + kM' lim c.args 0 + kM' lim c.out 0) else a
def szE (lim:Int):List EnT -> Int -> Int
 | [],a=>a
 | x :: r,a=>if a < lim then szE lim r (szC lim x.ctors (a + 1 + (x.sort.length:Int) + (x.type.length:Int) + (x.body.length:Int) + kM' lim x.params 0 + kM' lim x.indices 0)) else a
def vZ' (B:BoT) (lim:Int):Int:=szE lim B.ents ((B.orders.length:Int) + (B.prims.length:Int))
theorem wa' {lim a:Int} (h:¬ a < lim):∀ (l:List (List Nd)),kM' lim l a = a
 | []=>rfl
 | l :: r=>by simp only [kM']; rw [if_neg h]
theorem tM' {lim a:Int} (h:¬ a < lim):∀ (l:List CtT),szC lim l a = a
 | []=>rfl
 | l :: r=>by simp only [szC]; rw [if_neg h]
theorem tN' {lim a:Int} (h:¬ a < lim):∀ (l:List EnT),szE lim l a = a
 | []=>rfl
 | l :: r=>by simp only [szE]; rw [if_neg h]
section
variable {C:Mem} {w:World} {B:BoT}
theorem gX' (hS:Sub C w) {ls:List (List Nd)} {vl:Value} (hl:SV (rSk rNd) C ls vl) {lim:Int} (h0:0 <= lim /\ lim <= 100000) :
  CC 29 #[vl,iV lim] w (fun e w'=>(e = .returned (iV (kM' lim ls 0)) /\ 0 <= kM' lim ls 0 /\ kM' lim ls 0 <= 1200000000000) /\ Kp [] w w'):=by
 refine oF Tryz.func29 ?_;obtain ⟨RES,hRES⟩:∃ r,kM' lim ls 0 = r:=⟨_,rfl⟩
 rw [hRES];have hll:=hl;obtain ⟨al,cl,rfl,hl1,hl2⟩:=hl;have l1:=hl1.1;refine cO (args:=[_,_]) 27 [.tmp 4] τok Tryz.func29 ?_;refine lp τok (σ:=Nat × Int) (fun q=>[(0,.slice al ls.length cl),(1,iV lim),(5,iV q.2),(6,iV (q.1:Int))])
  (fun q w'=>q.1 <= ls.length /\ 0 <= q.2 /\ q.2 <= 1200000000000 /\ Kp [] w w' /\ kM' lim (ls.drop q.1) q.2 = RES) (fun q=>ls.length - q.1) (0,0) rfl
  ⟨rfl,rfl,rfl,rfl,trivial⟩ ⟨Nat.zero_le _,Int.le_refl _,by decide,Kp.refl _ _,hRES⟩ ?_
 clear hRES
 rintro ⟨i,a⟩ w1 ⟨hi,ha0,ha1,hk1,hres⟩;simp only at hi ha0 ha1 hres;have fin:kM' lim (ls.drop i) a = a -> (Ending.returned (Go.Wx.one [iV a]) = .returned (iV RES) /\ 0 <= RES /\ RES <= 1200000000000) /\ Kp [] w w1:=fun h=>by
  rw [h] at hres;subst hres;exact ⟨⟨rfl,ha0,ha1⟩,hk1⟩
 refine ac' (fun g=>?_) (fun g=>?_)
 ·have g:(i:Int) < (ls.length:Int):=g
  refine ac' (fun g2=>?_) (fun g2=>?_)
  ·have g2:a < lim:=g2
   obtain ⟨l,hl,hd⟩:=af' (l:=ls) (k:=i) (by omega);rw [hd] at hres;simp only [kM'] at hres;rw [if_pos g2] at hres;obtain ⟨b,o,c,pc,u,hu,hsu⟩:=rs' hll hl;injection pc with q1 q2 q3
   subst q1 q3;obtain ⟨au,cu,rfl,hu1,_⟩:=id hsu;have lu:=hu1.1;refine i6 ?_;refine ix i rfl (by omega) ?_;refine ld (Cl.cell (hS.tr hk1 _ _ _ hu)) ?_;refine i6 ?_;refine i6 ?_;exact ⟨(i + 1,a + 1 + (l.length:Int)),by simp only; omega,rfl,⟨rfl,rfl,rfl,rfl,trivial⟩,by show i + 1 <= _; omega,by simp only; omega,by simp only; omega,hk1,hres⟩
  ·have g2:¬ a < lim:=g2
   exact fin (wa' g2 _)
 ·have g:¬ (i:Int) < (ls.length:Int):=g
  exact fin (by rw [List.drop_eq_nil_of_le (by omega)]; rfl)
theorem wb' (hS:Sub C w) {vb:Value} (hvb:BoV C B vb) {lim:Int} (h0:0 <= lim /\ lim <= 100000) :
  CC 11 #[vb,iV lim] w (fun e w'=>e = .returned (iV (vZ' B lim)) /\ Kp [] w w'):=by
 refine oF Tryz.func11 ?_;obtain ⟨RES,hRES⟩:∃ r,vZ' B lim = r:=⟨_,rfl⟩
 rw [hRES];unfold vZ' at hRES;obtain ⟨v1,v2,v3,rfl,hO,hE,hP⟩:=hvb;obtain ⟨ao,co,rfl,hO1,_⟩:=id hO;obtain ⟨ae,ce,rfl,hE1,_⟩:=id hE;obtain ⟨ap,cp,rfl,hP1,_⟩:=id hP;have lO:=hO1.1;have lE:=hE1.1;have lP:=hP1.1;refine cO (args:=[_,_]) 90 [.tmp 4] τok Tryz.func11 ?_;refine new fun b2 w1 hb2 h2 hs1 hk1=>?_;have h2:Bk w1.heap b2 [iV B.vars,.slice ao B.orders.length co,.slice ae B.ents.length ce,iV B.nat,.slice ap B.prims.length cp] 26:=h2;refine lb h2 ?_;refine lb h2 ?_;refine i6 ?_;refine lp τok (σ:=Nat × Int) (fun q=>[(1,iV lim),(2,pt b2),(5,iV q.2),(6,iV (q.1:Int))])
  (fun q w'=>q.1 <= B.ents.length /\ 0 <= q.2 /\ q.2 <= 100000000000000 /\ Kp [] w1 w' /\ szE lim (B.ents.drop q.1) q.2 = RES) (fun q=>B.ents.length - q.1) (0,(B.orders.length:Int) + (B.prims.length:Int)) rfl
  ⟨rfl,rfl,rfl,rfl,trivial⟩ ⟨Nat.zero_le _,by simp only; omega,by simp only; omega,Kp.refl _ _,hRES⟩ ?_
 clear hRES
 rintro ⟨i,a⟩ w2 ⟨hi,ha0,ha1,hk2,hres⟩;simp only at hi ha0 ha1 hres;have k02:=hk1.tr hk2;have h22:=h2.kp hk2 (by simp);have fin:szE lim (B.ents.drop i) a = a -> Ending.returned (Go.Wx.one [iV a]) = .returned (iV RES) /\ Kp [] w w2:=fun h=>by
  rw [h] at hres;subst hres;exact ⟨rfl,k02⟩
 refine lb h22 ?_;refine ac' (fun g=>?_) (fun g=>?_)
 ·have g:(i:Int) < (B.ents.length:Int):=g
  refine ac' (fun g2=>?_) (fun g2=>?_)
  ·have g2:a < lim:=g2
   obtain ⟨x,hx,hd⟩:=af' (l:=B.ents) (k:=i) (by omega);rw [hd] at hres;simp only [szE] at hres;rw [if_pos g2] at hres;obtain ⟨be,oe,ce',pe,hat⟩:=hE.at hx;obtain ⟨w1e,w2e,w3e,w4e,w5e,w6e,hcs,hki,hso,hpa,hin,hct,hty,hbo⟩:=ee' hat;injection pe with q1 q2 q3
   subst q1 q3;obtain ⟨as_,cs_,rfl,hso1,_⟩:=id hso;obtain ⟨apa,cpa,rfl,hpa1,_⟩:=id hpa;obtain ⟨ain,cin,rfl,hin1,_⟩:=id hin;obtain ⟨act,cct,rfl,hct1,_⟩:=id hct;obtain ⟨aty,cty,rfl,hty1,_⟩:=id hty;obtain ⟨abo,cbo,rfl,hbo1,_⟩:=id hbo;have m1:=hso1.1;have m2:=hct1.1;have m3:=hty1.1;have m4:=hbo1.1;refine lb h22 ?_;refine ix i rfl (by omega) ?_;refine ldN _ rfl (fun j u hj=>(hS.tr k02) _ _ _ (hcs j u hj)) ?_;refine new fun b7 w3 hb7 h7 hs3 hk3=>?_;refine stN (vs:=[iV x.kind,.slice as_ x.sort.length cs_,.slice apa x.params.length cpa,.slice ain x.indices.length cin,.slice act x.ctors.length cct,.slice aty x.type.length cty,.slice abo x.body.length cbo]) h7 rfl (by simp [Value.oneCell']) fun w4 h7 hs4 hk4=>?_;have k24:=hk3.newSt hb7 hk4;have k04:=k02.tr k24;have h7:Bk w4.heap b7 [iV x.kind,.slice as_ x.sort.length cs_,.slice apa x.params.length cpa,.slice ain x.indices.length cin,.slice act x.ctors.length cct,.slice aty x.type.length cty,.slice abo x.body.length cbo] 39:=h7;refine al' τok (fun z=>Kp [] w4 z) ?_;refine rV τok [0,1,2,3,4,5,6,7,8,9,10,11,12,13,14,15,16,19,20,21] 5 (mB 25 [17,18,22,23,24]) (kQd w4) ?_;refine i6 ?_;refine lk h7 ?_;refine i6 ?_;refine lk h7 ?_;refine i6 ?_;refine lk h7 ?_;refine i6 ?_;refine lk h7 ?_;refine lk h7 ?_;refine nV τok 17 4 (mB 25 [18,22,23,24]) ?_;refine ab' (gX' (w:=(dr w4)) (hS.tr (k04.dr _)) hpa h0) ?_;rintro e w5 ⟨⟨rfl,p0,p1⟩,hk5⟩;have hk5:Kp [] w4 w5:=hk5.rd;refine ⟨.inl hk5,?_⟩;refine rV τok [18] 3 (mR 25 22) hk5 ?_;refine i6 ?_;refine nV τok 22 2 (mR 25 23) ?_;refine ab' (gX' (hS.tr (k04.tr hk5)) hin h0) ?_;rintro e w6 ⟨⟨rfl,i0,i1⟩,hk6⟩;have k46:=hk5.tr hk6;refine ⟨.inl k46,?_⟩;refine rV τok [23,24] 0 (mR 25 25) k46 ?_;refine i6 ?_;refine dV ?_;obtain ⟨a1,ha1'⟩:∃ a1,a1 = a + 1 + (x.sort.length:Int) + (x.type.length:Int) + (x.body.length:Int) + kM' lim x.params 0 + kM' lim x.indices 0:=⟨_,rfl⟩
   rw [<- ha1'] at hres ⊢;have k06:=k04.tr k46;have h7:=h7.kp k46 (by simp);obtain ⟨RC,hRC⟩:∃ r,szC lim x.ctors a1 = r:=⟨_,rfl⟩
   rw [hRC] at hres;refine lp τok (σ:=Nat × Int) (fun q=>[(1,iV lim),(2,pt b2),(5,iV q.2),(6,iV (i:Int)),(7,pt b7),(8,iV (q.1:Int))])
    (fun q w'=>q.1 <= x.ctors.length /\ 0 <= q.2 /\ q.2 <= 100000000000000 /\ Kp [] w6 w' /\ szC lim (x.ctors.drop q.1) q.2 = RC) (fun q=>x.ctors.length - q.1) (0,a1) rfl
    ⟨rfl,rfl,rfl,rfl,rfl,rfl,trivial⟩ ⟨Nat.zero_le _,by simp only; omega,by simp only; omega,Kp.refl _ _,hRC⟩ ?_
   clear hRC
   rintro ⟨j,a2⟩ w7 ⟨hj,hj0,hj1,hk7,hRC⟩;simp only at hj hj0 hj1 hRC;have k07:=k06.tr hk7;have h77:=h7.kp hk7 (by simp);refine lb h77 ?_;have k17:Kp [] w1 w7:=(hk2.tr k24).tr (k46.tr hk7);have next:szC lim (x.ctors.drop j) a2 = a2 -> a2 = RC:=fun h=>by rw [<- hRC,h]
   refine ac' (fun y1=>?_) (fun y1=>?_)
   ·have y1:(j:Int) < (x.ctors.length:Int):=y1
    refine ac' (fun y2=>?_) (fun y2=>?_)
    ·have y2:a2 < lim:=y2
     obtain ⟨c,hc,hd⟩:=af' (l:=x.ctors) (k:=j) (by omega);rw [hd] at hRC;simp only [szC] at hRC;rw [if_pos y2] at hRC;obtain ⟨bc,oc,cc',pc,hca⟩:=hct.at hc;obtain ⟨va,vo,hccs,hva,hvo⟩:=iP' hca;injection pc with q1 q2 q3
     subst q1 q3;obtain ⟨aa,ca,rfl,_,_⟩:=id hva;obtain ⟨aoo,coo,rfl,_,_⟩:=id hvo;have hS7:=hS.tr k07;refine al' τok (fun z=>Kp [] w7 z) ?_;refine rV τok [0,1,2,3,4,5,6,7,8,11,12,13,14,15,16,17] 5 (mB 21 [9,10,18,19,20]) (kQd w7) ?_;refine i6 ?_;refine lk h77 ?_;refine ix j rfl (by omega) ?_;refine ldK (hS7 _ _ _ (hccs 0 _ rfl)) ?_;refine lk h77 ?_;refine ix j rfl (by omega) ?_;refine ldK (hS7 _ _ _ (hccs 1 _ rfl)) ?_;refine nV τok 9 4 (mB 21 [10,18,19,20]) ?_;refine ab' (gX' (w:=(dr w7)) (hS.tr (k07.dr _)) hva h0) ?_;rintro e w8 ⟨⟨rfl,s0,s1⟩,hk8⟩;have hk8:Kp [] w7 w8:=hk8.rd;refine ⟨.inl hk8,?_⟩;refine rV τok [10] 3 (mR 21 18) hk8 ?_;refine i6 ?_;refine nV τok 18 2 (mR 21 19) ?_;refine ab' (gX' (hS7.tr hk8) hvo h0) ?_;rintro e w9 ⟨⟨rfl,t0,t1⟩,hk9⟩;have k79:=hk8.tr hk9;refine ⟨.inl k79,?_⟩;refine rV τok [19,20] 0 (mR 21 21) k79 ?_;refine i6 ?_;refine dV ?_;refine i6 ?_;exact ⟨(j + 1,a2 + 1 + kM' lim c.args 0 + kM' lim c.out 0),by simp only; omega,rfl,⟨rfl,rfl,rfl,rfl,rfl,rfl,trivial⟩,by show j + 1 <= _; omega,by simp only; omega,by simp only; omega,hk7.tr k79,hRC⟩
    ·have y2:¬ a2 < lim:=y2
     have:=next (tM' y2 _);refine i6 ?_;exact ⟨(i + 1,a2),by simp only; omega,rfl,⟨rfl,rfl,rfl,rfl,trivial⟩,by show i + 1 <= _; omega,hj0,hj1,k17,by simp only; rw [this]; exact hres⟩
   ·have y1:¬ (j:Int) < (x.ctors.length:Int):=y1
    have:=next (by rw [List.drop_eq_nil_of_le (by omega)]; rfl);refine i6 ?_;exact ⟨(i + 1,a2),by simp only; omega,rfl,⟨rfl,rfl,rfl,rfl,trivial⟩,by show i + 1 <= _; omega,hj0,hj1,k17,by simp only; rw [this]; exact hres⟩
  ·have g2:¬ a < lim:=g2
   exact fin (tN' g2 _)
 ·have g:¬ (i:Int) < (B.ents.length:Int):=g
  exact fin (by rw [List.drop_eq_nil_of_le (by omega)]; rfl)
end
section
variable {w:World}
theorem gy' {α:Type} {R:Rd α} {b T:Nat} {x:α} {cs:List Value} (hb:Bk w.heap b cs T) (hd:R.den (Im [] w) cs x):SV R (Im [] w) [x] (.slice (some ⟨b,0,none⟩) 1 1):=by
 refine ⟨_,_,rfl,⟨by simp,.inr ⟨b,0,rfl,fun i y hy=>?_⟩⟩,by simp⟩
 match i,hy with
 | 0,hy =>
  obtain rfl:x = y:=by simpa using hy
  refine ⟨cs,hd,fun j v hj=>⟨?_,by simp⟩⟩;rw [Nat.zero_mul,Nat.add_zero,Nat.zero_add];exact hb.cl hj
 | i + 1,hy=>simp at hy
theorem uy' {α:Type} {R:Rd α} {b T:Nat} {x y:α} {cs ds:List Value} (hb:Bk w.heap b (cs ++ ds) T) (hd:R.den (Im [] w) cs x) (he:R.den (Im [] w) ds y):SV R (Im [] w) [x,y] (.slice (some ⟨b,0,none⟩) 2 2):=by
 have hl:=R.len hd;refine ⟨_,_,rfl,⟨by simp,.inr ⟨b,0,rfl,fun i z hz=>?_⟩⟩,by simp⟩
 match i,hz with
 | 0,hz =>
  obtain rfl:x = z:=by simpa using hz
  refine ⟨cs,hd,fun j v hj=>⟨?_,by simp⟩⟩;rw [Nat.zero_mul,Nat.add_zero,Nat.zero_add];exact hb.cl (by rw [List.getElem?_append_left (ai' hj)]; exact hj)
 | 1,hz =>
  obtain rfl:y = z:=by simpa using hz
  refine ⟨ds,he,fun j v hj=>⟨?_,by simp⟩⟩;rw [Nat.one_mul,Nat.zero_add];exact hb.cl (by rw [List.getElem?_append_right (by omega),hl,Nat.add_sub_cancel_left]; exact hj)
 | i + 2,hz=>simp at hz
def xs' (w:World) (b3 b7 b9 b11:Nat) (vr:Value):Prop :=
 Bk w.heap b3 [iV 2,iV 1,iV 1,iV 3,iV 0,iV 0] 43 /\ Bk w.heap b7 [vr] 35 /\ Bk w.heap b9 [.slice none 0 0,.slice none 0 0,.slice (some ⟨b7,0,none⟩) 1 1,.slice none 0 0] 41 /\
  Bk w.heap b11 [iV 1,.slice (some ⟨b3,0,none⟩) 2 2,.slice none 0 0,.slice none 0 0,.slice (some ⟨b9,0,none⟩) 2 2,.slice none 0 0,.slice none 0 0] 39
theorem yc' {b3:Nat} (h:Bk w.heap b3 [iV 2,iV 1,iV 1,iV 3,iV 0,iV 0] 43):SV rNd (Im [] w) rT (.slice (some ⟨b3,0,none⟩) 2 2) :=
 uy' (cs:=[iV 2,iV 1,iV 1]) (ds:=[iV 3,iV 0,iV 0]) h ⟨rfl,⟨by simp,by simp⟩,⟨by simp,by simp⟩,⟨by simp,by simp⟩⟩ ⟨rfl,⟨by simp,by simp⟩,⟨by simp,by simp⟩,⟨by simp,by simp⟩⟩
theorem wc' {b3 b7 b9 b11:Nat} {vr:Value} {r:List Nd} {nat:Int} (h:xs' w b3 b7 b9 b11 vr) (hr:SV rNd (Im [] w) r vr):BoV (Im [] w) (BN r nat) (.agg #[iV 0,.slice none 0 0,.slice (some ⟨b11,0,none⟩) 1 1,iV nat,.slice none 0 0]):=by
 obtain ⟨h3,h7,h9,h11⟩:=h;refine ⟨_,_,_,rfl,SV.nil _ _,gy' h11 ?_,SV.nil _ _⟩;obtain ⟨ar,cr,rfl,hr1,hr2⟩:=hr;have h71:SV (rSk rNd) (Im [] w) [r] (.slice (some ⟨b7,0,none⟩) 1 1):=gy' h7 ⟨_,_,rfl,hr2,hr1⟩;refine ⟨_,_,_,_,_,_,rfl,⟨by simp [enB],by simp [enB]⟩,yc' h3,SV.nil _ _,SV.nil _ _,?_,SV.nil _ _,SV.nil _ _⟩;exact uy' (cs:=[.slice none 0 0,.slice none 0 0]) (ds:=[.slice (some ⟨b7,0,none⟩) 1 1,.slice none 0 0]) h9 ⟨_,_,rfl,SV.nil _ _,SV.nil _ _⟩ ⟨_,_,rfl,h71,SV.nil _ _⟩
end
end Go.Proofs.YtmpgcpemnjbgjaaGreat
