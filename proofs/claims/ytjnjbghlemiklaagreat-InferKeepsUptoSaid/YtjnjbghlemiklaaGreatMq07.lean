import Derived.Test.YtjnjbghlemiklaaGreatMq06
import Derived.Shelf.SlIterI.Nil
import Derived.Shelf.SortM.Plain
import Derived.Shelf.SortM.SortNone
set_option linter.unusedVariables false
set_option linter.unusedSimpArgs false
set_option linter.unusedSectionVars false
set_option maxRecDepth 100000
set_option maxHeartbeats 4000000
open Go.Proofs.Tryz
namespace Go.Proofs.YtjnjbghlemiklaaGreat
open Go.Wx Cd Tm Lv
def sw(a b k:Nat):Nat:=match Nat.beq k a with
 |true=>b
 |false=>k
def cd(op:Int)(F:List Nd):Nat ->List Tr ->List Nd
 |_,[]=>[]
 |i,k::r=>(if op=12/\i%2=0 then (F[i/2]?).toList else [])++(row k++cd op F (i+1) r)
theorem xl{op:Int}(h:op≠12)(F:List Nd):∀(l:List Tr) (i:Nat),cd op F i l=rows l
 |[],_=>rfl
 |k::r,i=>by simp[cd,h,rows,xl h F r (i+1)]
theorem Cw{op:Int}(h:op=12):∀(ks:List Tr) (p:List Nd),(∀k∈ks,k.ks.length=2) ->cd op (p++ks.map (·.n)) (2*p.length) (ks.flatMap (·.ks))=rows ks
 |[],p,_=>rfl
 | .mk n i::r,p,j=>by
  have h2:=j (.mk n i) Od;simp only[Tr.ks]at h2
  match i,h2 with
  |[a,b],_=>
   have d:=Cw h r (p++[n]) λk e=>j k (by simp[e]);simp only[JK,JV,JU,List.append_assoc,List.cons_append,List.nil_append]at d;have l:(2*p.length+1)%2=1:=Oo
   have o:2*p.length/2=p.length:=Oo
   have q:2*(p.length+(0+1))=2*p.length+1+1:=Oo
   rw[q]at d;simp[cd,Tr.ks,Tr.n,h,l,o,rows,row,<- d]
theorem iA{x:Tr}(q:Ok .tm x):row x=x.n::(atmsT x++cd x.n.op (funsT x) 0 (kidsT x)):=by
 obtain⟨n,ks⟩:=x;obtain⟨⟨s,l⟩,e⟩:=q;simp only[Tr.n,atmsT,funsT,kidsT,Tr.ks,row]
 by_cases j:n.op=2
 ·simp only[j,if_true,if_neg (show ¬ (2:Int)=12 by decide)]
  simp only[cd,JD]
  congr 1
  have:∀y∈ks,y.ks=[]:=λy h=>by
   obtain⟨i,e⟩:=JH h;have:=iU ks 0 i y l e;obtain⟨m,k⟩:=y;have o:nx .tm n (0+i)= .am:=by simp[nx,j]
   rw[o]at this;have b:=this.1;simp only[cnt]at b;split at b
   ·injection b with b
    exact List.length_eq_zero_iff.1 b.symm
   ·cases b
  clear s l e
  induction ks with
  |nil=>rfl
  |cons y r v=>
   obtain⟨m,k⟩:=y;have b:k=[]:=this (.mk m k) Od;subst b;simp[rows,row,Tr.n,v λy h=>this y (by simp[h])]
 ·by_cases d:n.op=12
  ·simp only[d,if_true,if_neg (show ¬ (12:Int)=2 by decide),List.nil_append]
   have:∀y∈ks,y.ks.length=2:=λy h=>by
    obtain⟨i,e⟩:=JH h;have:=iU ks 0 i y l e;obtain⟨m,k⟩:=y;have o:nx .tm n (0+i)= .fn:=by simp[nx,d]
    rw[o]at this;have b:=this.1;simp only[cnt]at b;split at b
    ·injection b with b
     exact b.symm
    ·cases b
   have:=Cw (op:=12) rfl ks [] this;simp only[List.nil_append,JU,Nat.mul_zero]at this;exact congrArg (n:: ·) this.symm
  ·have w:atmsT (.mk n ks)=[]:=if_neg j
   have z:cd n.op (funsT (.mk n ks)) 0 ks=rows ks:=xl d _ ks 0;have C:kidsT (.mk n ks)=ks:=by simp[kidsT,j,d]
   show n::rows ks=n::(atmsT (.mk n ks)++cd n.op (funsT (.mk n ks)) 0 (kidsT (.mk n ks)))
   rw[w,C,z]
   rfl
theorem H1{x:Tr}(h:Ok .tm x){j:Nat}(b:x.n.op=12)(q:j<(kidsT x).length):∃f,(funsT x)[j/2]?=some f:=by
 have:(kidsT x).length=2*(funsT x).length:=by
  have s:=iA h;obtain⟨n,ks⟩:=x;obtain⟨⟨v,k⟩,e⟩:=h;simp only[Tr.n]at b;have l:kidsT (.mk n ks)=ks.flatMap (·.ks):=by simp[kidsT,b]
  have o:funsT (.mk n ks)=ks.map (·.n):=if_pos b;rw[l,o,List.length_map];have:∀y∈ks,y.ks.length=2:=λy w=>by
   obtain⟨i,e⟩:=JH w;have:=iU ks 0 i y k e;obtain⟨m,H⟩:=y;have C:nx .tm n (0+i)= .fn:=by simp[nx,b]
   rw[C]at this;have d:=this.1;simp only[cnt]at d;split at d
   ·injection d with d
    exact d.symm
   ·cases d
  clear q s v k e l o
  induction ks with
  |nil=>rfl
  |cons y r D=>
   have d:=this y Od;have E:=D λz F=>this z (by simp[F]);simp only[List.flatMap_cons,JK,JV,d,E];omega
 exact⟨_,gE⟩
theorem fN(l:List Nd):∀x∈l,(ndP x).length=3/\∀q∈ndP x,q.one=true:=λx _=>⟨rfl,λq b=>by
 simp only[ndP,JJ,JZ,or_false]at b;rcases b with rfl|rfl|rfl<;>rfl⟩
theorem Cx(op:Int)(F:List Nd):∀(l:List Tr) (i j:Nat) (y:Tr),l[j]?=some y ->(row y).length<=(cd op F i l).length
 |x::r,i,0,y,h=>by
  obtain rfl:=JB h;simp only[cd,JK];omega
 |x::r,i,j+1,y,h=>by
  have:=Cx op F r (i+1) j y h;simp only[cd,JK];omega
theorem hH{x:Tr}(b:Ok .tm x){j:Nat}{y:Tr}(h:(kidsT x)[j]?=some y):(row y).length<(row x).length:=by
 have:=Cx x.n.op (funsT x) (kidsT x) 0 j y h;rw[iA b];simp only[JV,JK];omega
structure Wf(x:Tr):Prop where
 ok:Ok .tm x
 len:(row x).length<=4096
theorem Wf.ft{x:Tr}(h:Wf x):Ft (λ_=>True) 2000000 x:=by
 refine⟨h.ok,h.len,λq b=>?_,λ_ _=>True.intro⟩;have d:=fh' x .tm 0 0 h.ok.1 Oo Oo Oo q b;omega
theorem Wf.kid{x:Tr}(h:Wf x){j:Nat}{y:Tr}(b:(kidsT x)[j]?=some y):Wf y:=by
 obtain⟨n,ks⟩:=x;have:=h.ft.kid b;exact⟨this.ok,this.len⟩
theorem vt{l:List Tr}{i:Int}{k:Nat ->List PV ->Prop}(j:Nat){y:Tr}(b:l[j]?=some y)(d:k j (dT y))(hi:i=(j:Int):=by first|rfl|omega):nl (l.map trP) 6 i k:=
 nm j (dT y) hi (by rw[JX,b];exact congrArg some (jO y)) rfl d
theorem kr(N:Nat)(Z:N<=1000000):∀x:Tr,Wf x ->(row x).length<=N ->VC prog 102 [bB x] (ah (row x)):=by
 induction N with
 |zero=>
  intro x _ h;have:=aS x;omega
 |succ N W=>
  intro x s L;have D:=iA s.ok;have o:=λj y=>hH s.ok (j:=j) (y:=y);have r:=λj y=>s.kid (j:=j) (y:=y);have v:=s.len;have w:=gA s.ok;have E:∀j,x.n.op=12 ->j<(kidsT x).length ->∃f,(funsT x)[j/2]?=some f:=λj=>H1 s.ok;show VC _ _ [.agg (eJ x.n _ _ _)] _
  revert D o r E v L w
  generalize row x=R,kidsT x=K,funsT x=F,atmsT x=At
  obtain⟨O,a,b⟩:=x.n;intro L D o r v w E;have z:=congrArg List.length D;simp only[JV,JK]at z;have eK:=ak trP K;refine vf 45 [.tmp 2] τok func102 ?_;refine va ?_ (fN At);refine az τok (σ:=Nat×List Nd) [(1,_)] [(1,_)] (λq=>[(3,.c (.row 1000)),(4,vI q.1)]) (λq=>[(1000,.rw 42 3 (q.2.map ndP))]) (λq=>q.1<=K.length/\q.2++cd O F q.1 (K.drop q.1)=R) (λq=>K.length-q.1) (0,⟨O,a,b⟩::At) ⟨KV _,by simpa using D.symm⟩ ?_ (sw 1000 10);rintro⟨i,l⟩ ⟨X,d⟩;simp only at X d;refine aj τok<|ae (λg=>?_) (λg=>?_)
  ·obtain⟨y,C,Y⟩:=ay (l:=K) (k:=i)
   rw[Y]at d;simp only[cd]at d;have H:=congrArg List.length d;simp only[JK]at H;have I:=W Oo y (r i y C) (by have:=o i y C;omega);refine ae (λe=>?_) (λe=>?_)
   ·refine ou Oo Oo Oo ?_
    refine ae (λT=>?_) (λT=>?_)
    ·obtain⟨f,V⟩:=E i e Oo
     rw[if_pos ⟨e,Oo⟩,V]at d;refine ou Oo Oo Oo<|vm (i/2) V ?_;refine aV ?_;refine vt i C ?_;refine af I ?_;refine va ?_ (fN _);refine vi ?_;exact au (i+1,l++[f]++row y) ⟨OS,by simpa using d⟩ (sw 1000 43)
    ·rw[if_neg λq=>T Oo]at d
     refine vt i C ?_;refine af I ?_;refine va ?_ (fN _);refine vi ?_;exact au (i+1,l++row y) ⟨OS,by simpa using d⟩ (sw 1000 43)
   ·rw[if_neg λq=>e q.1]at d
    refine vt i C ?_;refine af I ?_;refine va ?_ (fN _);refine vi ?_;exact au (i+1,l++row y) ⟨OS,by simpa using d⟩ (sw 1000 43)
  ·rw[JY Oo]at d
   simp only[cd,JD]at d;exact⟨_,_,rfl,rfl,by rw[<- d];rfl⟩
abbrev oK(n:Nd):PV:=.agg (ndP n)
theorem H2(n:Nd):VC prog 218 [oK n] (.bool (aE n.a 0 63)):=by
 refine vf 11 [.tmp 2] τok func218 ?_
 repeat' refine ae (λ_=>?_) (λ_=>?_)
 all_goals exact⟨_,_,rfl,rfl,congrArg PV.bool (by first|(simp[aE, *];done)|(simp[aE, *];omega))⟩
theorem xm(n:Nd):VC prog 198 [oK n] (.bool (aw n)):=by
 generalize hP:aw n=P;have fin:∀{Q:Bool},Q=P ->gz' [PV.nz (.bool Q)]= .bool P:=λh=>by rw[h];rfl
 refine vf 148 [.tmp 2] τok func198 ?_;refine ae (λj=>?_) (λj=>?_)
 ·skip
  repeat' refine ae (λ_=>?_) (λ_=>?_)
  all_goals exact⟨_,_,rfl,rfl,fin (by rw[<- hP];first|(simp[aw,aE, *];done)|(simp[aw,aE, *];omega))⟩
 refine ae (λk=>?_) (λk=>?_)
 ·skip
  repeat' refine ae (λ_=>?_) (λ_=>?_)
  all_goals exact⟨_,_,rfl,rfl,fin (by rw[<- hP];first|(simp[aw,aE, *];done)|(simp[aw,aE, *];omega))⟩
 refine ae (λl=>?_) (λl=>?_)
 ·skip
  repeat' refine ae (λ_=>?_) (λ_=>?_)
  all_goals exact⟨_,_,rfl,rfl,fin (by rw[<- hP];first|(simp[aw,aE, *];done)|(simp[aw,aE, *];omega))⟩
 refine ae (λo=>?_) (λo=>?_)
 ·skip
  repeat' refine ae (λ_=>?_) (λ_=>?_)
  all_goals exact⟨_,_,rfl,rfl,fin (by rw[<- hP];first|(simp[aw,aE, *];done)|(simp[aw,aE, *];omega))⟩
 refine ae (λr=>?_) (λr=>?_)
 ·skip
  repeat' refine ae (λ_=>?_) (λ_=>?_)
  all_goals exact⟨_,_,rfl,rfl,fin (by rw[<- hP];first|(simp[aw,aE, *];done)|(simp[aw,aE, *];omega))⟩
 refine ae (λs=>?_) (λs=>?_)
 ·skip
  repeat' refine ae (λ_=>?_) (λ_=>?_)
  all_goals exact⟨_,_,rfl,rfl,fin (by rw[<- hP];first|(simp[aw,aE, *];done)|(simp[aw,aE, *];omega))⟩
 refine ae (λv=>?_) (λv=>?_)
 ·skip
  repeat' refine ae (λ_=>?_) (λ_=>?_)
  all_goals exact⟨_,_,rfl,rfl,fin (by rw[<- hP];first|(simp[aw,aE, *];done)|(simp[aw,aE, *];omega))⟩
 have b:=H2 n;have d:=@dq n.a 0 63
 generalize aE n.a 0 63=q at b d
 refine ae (λw=>?_) (λw=>?_)
 ·cases q<;>simp at d
  all_goals refine af b ?_
  repeat' refine ae (λ_=>?_) (λ_=>?_)
  all_goals exact⟨_,_,rfl,rfl,fin (by rw[<- hP];first|(simp[aw,aE, *];done)|(simp[aw,aE, *];omega))⟩
 refine ae (λz=>?_) (λz=>?_)
 ·cases q<;>simp at d
  all_goals refine af b ?_
  repeat' refine ae (λ_=>?_) (λ_=>?_)
  all_goals exact⟨_,_,rfl,rfl,fin (by rw[<- hP];first|(simp[aw,aE, *];done)|(simp[aw,aE, *];omega))⟩
 refine ae (λe=>?_) (λe=>?_)
 ·cases q<;>simp at d
  all_goals refine af b ?_
  repeat' refine ae (λ_=>?_) (λ_=>?_)
  all_goals exact⟨_,_,rfl,rfl,fin (by rw[<- hP];first|(simp[aw,aE, *];done)|(simp[aw,aE, *];omega))⟩
 refine ae (λi=>?_) (λi=>?_)
 ·cases q<;>simp at d
  all_goals refine af b ?_
  repeat' refine ae (λ_=>?_) (λ_=>?_)
  all_goals exact⟨_,_,rfl,rfl,fin (by rw[<- hP];first|(simp[aw,aE, *];done)|(simp[aw,aE, *];omega))⟩
 repeat' refine ae (λ_=>?_) (λ_=>?_)
 all_goals exact⟨_,_,rfl,rfl,fin (by rw[<- hP];first|(simp[aw,aE, *];done)|(simp[aw,aE, *];omega))⟩
theorem xn(n:Nd)(hb:0<=n.b/\n.b<=1000):VC prog 174 [oK n] (pI (bp n)):=by
 refine vf 21 [.tmp 2] τok func174 ?_
 repeat' first|refine ae (λ_=>?_) (λ_=>?_)|refine vi ?_
 all_goals exact⟨_,_,rfl,rfl,congrArg (PV.int .i64) (by simp[bp, *])⟩
theorem Cy(n:Nd)(k:Int):VC prog 175 [oK n,pI k] (pI (aY n k)):=by
 refine vf 25 [.tmp 4] τok func175 ?_
 repeat' refine ae (λ_=>?_) (λ_=>?_)
 all_goals exact⟨_,_,rfl,rfl,congrArg (PV.int .i64) (by simp_all [aY])⟩
end Go.Proofs.YtjnjbghlemiklaaGreat
namespace Go.Wx
def VD(P:Program)(f:FuncId)(u:FrameMode)(js:List Nat)(m m':List (Nat×SE)):Prop:=
 dz P f/\∀(w:World) (X:List Nat) (C:Mem) (ρ:Nat ->Value),Rp w X C ⟨kd' (jb js) 0,m⟩ ⟨ini (js.map ρ) 0,[]⟩ w C ρ ->
  CallsD P f (js.map ρ).toArray u w λe u' w'=>(∃v,e= .returned v)/\settle u'= .returning/\∃C' ρ',Rp w X C ⟨[],m'⟩ ⟨[],[]⟩ w' C' ρ'
section
variable{P:Program}{τ:Tau}{n:Nat}{A:AS}{f cl:FuncId}{rs:List ResultVar}{a:AV}{m m':List (Nat×SE)}{t:Nat}{fv:Value}{u:FrameMode}
structure DQ(P:Program)(τ:Tau)(rs:List ResultVar)(a:AV)(m':List (Nat×SE))(t:Nat)(fv:Value)(u:FrameMode)(A:AS):Prop where
 go:∃(cl:FuncId) (js ks:List Nat) (h fg:Nat ->Nat) (m1 m2:List (Nat×SE)),VD P cl u js m1 m2/\u≠ .run/\look A.e t=some (.c (.fr fv cl ks))/\js.map h=ks/\stK A ks=true/\mf A h m1/\flgB m1 0=true/\injB h (keysOf m1++newK m1 m2)=true/\injB h (keysOf m2)=true/\pstB m1 m2=true/\newK m1 m2=[]/\lvB ⟨[],m2⟩ (refsM m2)=true/\fgB A h fg m2=true/\qh τ rs a m' (A.upd [] (wmG fg h m1 m2))
theorem jP{d ks:List Nat}(h fg:Nat ->Nat){b m2:List (Nat×SE)}(e:VD P cl u d b m2)(j:qh τ rs a m' (A.upd [] (wmG fg h b m2)))(k:u≠ .run:=by exact λh=>by cases h)(o:look A.e t=some (.c (.fr fv cl ks)):=by rfl)(q:d.map h=ks:=by rfl)(r:stK A ks=true:=by rfl)(he:mf A h b:=by repeat first|exact True.intro|refine And.intro rfl ?_)(s:flgB b 0=true:=by rfl)(i:injB h (keysOf b++newK b m2)=true:=by rfl)(i':injB h (keysOf m2)=true:=by rfl)(p:pstB b m2=true:=by rfl)(v:newK b m2=[]:=by rfl)(l:lvB ⟨[],m2⟩ (refsM m2)=true:=by rfl)(g:fgB A h fg m2=true:=by rfl):DQ P τ rs a m' t fv u A:=
 ⟨cl,d,ks,h,fg,b,m2,e,k,o,q,r,he,s,i,i',p,v,l,g,j⟩
def H3(P:Program)(τ:Tau)(rs:List ResultVar)(a:AV)(m':List (Nat×SE))(t:Nat)(fv:Value):Exit ->AS ->Prop
 | .normal,A=>DQ P τ rs a m' t fv .returning A
 | .ret,A=>DQ P τ rs a m' t fv .returning A
 | .panic ch,A=>DQ P τ rs a m' t fv (.panicking ch) A
 |_,_=>False
theorem xo{w0 w:World}{X:List Nat}{C0:Mem}{s:St}{caps:Array Value}(K:aL P τ)(hD:DQ P τ rs a m' t (.func (.func cl) #[] caps) u A)(hd:s.d=[{target:=.fn (.func cl) caps,args:=#[] }])(z:Rep w0 X C0 A s w):
  lv P rs (λe w'=>∃v C' ρ',e= .returned v/\Rp w0 X C0 ⟨[(0,a)],m'⟩ ⟨[(0,v)],[]⟩ w' C' ρ') u s w:=by
 obtain⟨a3,js,ks,h,fg,m1,m2,hV,hu,ht,hj,hs,he,L,O,R,hp,V,hl,H,hE⟩:=hD.go;obtain⟨C,ρ,z⟩:=z;have D:=AE hs;have W:Lv A ks:=λk I=>by
  obtain⟨g,T,cs,d⟩:=D k I;exact⟨_,d,rfl⟩
 obtain⟨v,_,rfl,E⟩:=z.slot t _ ht W;injection E with j _ Y
 injection j with j
 subst j Y;have F:=Aw he;have e3:ks.map ρ=js.map λk=>ρ (h k):=by rw[<- hj,List.map_map];rfl
 refine⟨_,_,_,cl,(ks.map ρ).toArray,hd,hu,by simp[go_sem,zE hV.1],?_⟩;rw[e3];refine(hV.2 w _ C (λk=>ρ (h k)) (z.into F (pT O) L (by simp[jb]) λi b v l E=>?_)).mono λe u' w' ⟨h1,h2,C2,a4,h3⟩=>⟨h1,h2,?_⟩
 ·unfold jb at l
  rw[JX]at l E;cases o:js[i]? with
  |none=>rw[o]at l;cases l
  |some q=>
   rw[o]at l E;obtain rfl:=JB l;obtain rfl:=JB E;obtain⟨g,T,cs,d⟩:=D (h q) (by rw[<- hj];exact List.mem_map_of_mem (JQ o));obtain⟨b,us,e,_⟩:=z.ent _ _ d;exact⟨b,e,e⟩
 ·have Z:∀p∈m2,p.2.fl≠none ->rv' (look A.m (h p.1))=fg (h p.1):=λp r a0=>by
   obtain⟨_,g2⟩:=Av H p r;obtain⟨c1,_⟩:=sf hp p r;have a1:p.1∈keysOf m2:=by rw[k7];exact List.mem_map_of_mem (f:=(·.1)) r
   have d:p.1∈keysOf m1:=Classical.byContradiction λd=>by
    have:=k8.2 ⟨a1,d⟩;unfold newK at V;rw[V]at this;cases this
   obtain⟨y,hy⟩:∃y,(p.1,y)∈m1:=by
    rw[k7]at d;obtain⟨q,o,e⟩:=List.mem_map.1 d;exact⟨q.2,by rw[<- e];exact o⟩
   rcases c1 y (nr (pT O) hy)with ⟨g,j,Y,_⟩|j
   ·obtain⟨q,o,_⟩:=nt (ρ:=ρ) L _ hy g Y
    exact g2 q (by rw[j,o];simp)
   ·cases H:p.2.fl with
    |none=>exact absurd H a0
    |some g=>rw[(pS H).2]at j;cases j
  obtain⟨C3,a5,a2⟩:=z.back (s':=s) (wr:=[]) (v:=undef) (a:=.c (.p (.raw undef))) F O R L hp hl (λk I=>by rw[V]at I;cases I) Z (h3.reslot (b:=.c (.p (.raw undef))) λ_=>RV.raw _) (λt b l=>by cases l) λ_ _=>rfl;exact vX K a2 hE
theorem Cz{fn:Func}{c:Code}{args:List Value}{w:World}{R:Ending ->World ->Prop}(n:Nat)(rs:List ResultVar)
  (o:P.funcs[f]?=some fn) (hb:fn.body=some c) (q:fn.ntmps=n) (i:fn.results.toList=rs) (r:args.length<=n)
  (h:EvCode P n c ⟨ini args 0,[]⟩ w (qv P rs R)):Calls P f args.toArray w R:=by
 subst q i;refine calls_of_wp_defers o hb ?_;have z:Fr fn.ntmps {tmps:=args.toArray++Array.replicate (fn.ntmps-args.toArray.size) undef,defers:=[] } ⟨ini args 0,[]⟩:=by
  refine⟨OK,rfl,λt v C=>?_⟩;obtain⟨_,j⟩:=kY' _ _ _ _ C;rw[Nat.sub_zero]at j;have k:t<args.length:=(List.getElem?_eq_some_iff.1 j).1;rw[Array.getElem?_append_left (by simpa using k)]
  simpa using j
 unfold EvCode at h;refine Go.wp_mono (h _ z) λe E F D=>?_;obtain⟨s,b,d⟩:=D;cases e with
 |normal=>exact wG b d
 |ret=>exact wG b d
 |panic H=>exact wG b d
 |outgrown=>exact d.elim
 |exit id=>exact d.elim
 |goto l=>exact d.elim
structure H4(o:Oper)(t:Nat):Prop where
 g:o.guard=none
 d:o.dst=none
 p:o.op= .defer {callee:=.value (.tmp t),args:=#[],argTypes:=#[] }
def KD(P:Program)(τ:Tau)(n:Nat)(A:AS)(o:Oper)(c:Code)(rs:List ResultVar)(a:AV)(m':List (Nat×SE)):Kk:=λwr wm F=>match wr,wm,F with
 |[(t,.c (.fn cl ks))],[],[]=>H4 o t/\lvB A ks=true/\∀fv,VCode P n c (A.upd [(t,.c (.fr fv cl ks))] []) (H3 P τ rs a m' t fv)
 |_,_,_=>False
theorem CA{c1:Code}{id:Nat}{O R:Oper}{w T:World}{X:List Nat}{C:Mem}{D:St}{o:Act}(q:aL P τ)(hg:O.guard=none)(V:V1 P τ n O A (KD P τ n A R c1 rs a m') λ_ _=>False)(a0:Fr n o D)(a1:D.d=[])(a2:Rep w X C A D T):
  (Code.seq (.region id #[O,R] false) c1).wp P (lift n (qv P rs λe w'=>∃v C' ρ',e= .returned v/\Rp w X C ⟨[(0,a)],m'⟩ ⟨[(0,v)],[]⟩ w' C' ρ')) o T:=by
 rcases V1_snd (w0:=w) (X:=X) (C0:=C) q V with ⟨wr,wm,F,z,hT⟩|⟨_,_,z,_⟩
 ·unfold KD at z
  split at z
  ·rename_i t cl ks
   obtain⟨E,a3,z⟩:=z;refine wp_seq<|Go.wp_mono (kY q (.region id #[O,R] false) D T (λe s' w'=>e= .normal/\∃i,s'.d=[{target:=.fn (.func cl) i,args:=#[] }]/\Rep w X C (A.upd [(t,.c (.fr (.func (.func cl) #[] i) cl ks))] []) s' w') ?_ o a0) λe W w2 a4=>?_
   ·show fx P τ n [O,R] _ _ [O,R] D T
    rw[kW];simp only[hg];refine hT A D T _ _ ⟨λ_ _=>rfl,λ_ _ _ _ _ _ _=>rfl,λ_ _ _=>rfl,λ_ _ _ _ h=>h⟩ (λk V=>by cases V) a2 λs2 w2 d r=>?_;obtain⟨C2,H,d⟩:=d;have a5:look (A.upd [(t,AV.c (.fn cl ks))] []).e t=some (.c (.fn cl ks)):=kZ _ _ _;obtain⟨v,hv,I⟩:=d.slot t _ a5 (ma a3);have I:v= .func (.func cl) #[] (ks.map H).toArray:=I;subst I;rw[kW];simp only[E.g];unfold aR;simp only[E.p];refine aU (show ev s2.e (.tmp t)=_ from hv) ?_;obtain⟨e2,d2⟩:=s2;have r:d2=D.d:=r;subst r;rw[E.d,a1];refine⟨by trivial,(ks.map H).toArray,Od,C2,H,λY b K hl=>?_,λk x V=>?_,d.sep,d.off,d.sub,d.c0,d.cn,d.kp⟩
    ·have K:look ((t,_)::A.e) Y=some b:=K
     rw[cz]at K;cases Z:Nat.beq t Y with
     |true=>
      rw[Z]at K;obtain rfl:=Nat.eq_of_beq_eq_true Z;obtain rfl:=JB K;exact⟨_,hv,rfl,rfl⟩
     |false=>
      rw[Z]at K;refine d.slot Y b ?_ hl;show look ((t,_)::A.e) Y=some b;rw[cz,Z];exact K
    ·have:=d.ent k x V
     cases x<;>exact this
   ·obtain⟨s2,a6,he,i,r,d⟩:=a4
    subst he;have h3:=(z (.func (.func cl) #[] i)).run _ _ _ _ _ d;unfold EvCode at h3;refine Go.wp_mono (h3 W a6) λe a' w' hl=>?_;obtain⟨s4,a7,s,A4,j,L⟩:=hl;refine⟨s4,a7,?_⟩;rw[r]at s;cases e with
    |normal=>exact xo q j s L
    |ret=>exact xo q j s L
    |panic ch=>exact xo q j s L
    |exit id=>exact j.elim
    |goto l=>exact j.elim
    |outgrown=>exact j.elim
  ·exact z.elim
 ·exact z.elim
theorem oL{fn:Func}{c0 c1:Code}{id:Nat}{d z:Oper}{bs:List AV}(n:Nat)(rs:List ResultVar)(i:aL P τ)(D:P.funcs[f]?=some fn)
  (h : VCode P n c0 ⟨kd' bs 0, m⟩ (fI (λA => V1 P τ n d A (KD P τ n A z c1 rs a m') λ_ _ => False) λ_ _ => False)) (hb : fn.body = some (.seq c0 (.seq (.region id #[d, z] false) c1)) := by rfl) (H : d.guard = none := by rfl) (I : fn.ntmps = n := by rfl) (j : fn.results.toList = rs := by rfl) (K : bs.length <= n := by exact Nat.le_of_ble_eq_true rfl) (k : (fn.name == "runtime.NumGoroutine") = false := by decide) : VG P f bs m (.ok (a, m')) := by
 refine⟨⟨fn,D,by rw[hb];rfl,k⟩,λw X C ρ R T L=>?_⟩;refine Cz n rs D hb I j Oo ?_;have E:=h.run _ _ _ _ _ ⟨C,ρ,L⟩;unfold EvCode at E ⊢;intro o O;refine wp_seq (Go.wp_mono (E o O) λe F V q=>?_);obtain⟨W,r,s,A,b,v⟩:=q;cases e with
 |normal=>exact CA i H b r s v
 |exit id=>exact b.elim
 |goto l=>exact b.elim
 |ret=>exact b.elim
 |panic Y=>exact b.elim
 |outgrown=>exact b.elim
theorem H5{fn:Func}{c0 cx c1:Code}{id:Nat}{j I:Oper}{bs:List AV}(n:Nat)(rs:List ResultVar)(k:aL P τ)(K:P.funcs[f]?=some fn)
  (h : VCode P n c0 ⟨kd' bs 0, m⟩ (fI (λA => VCode P n cx A (fI (λA => V1 P τ n j A (KD P τ n A I c1 rs a m') λ_ _ => False) λ_ _ => False)) λ_ _ => False)) (hb : fn.body = some (.seq c0 (.seq cx (.seq (.region id #[j, I] false) c1))) := by rfl) (V : j.guard = none := by rfl) (W : fn.ntmps = n := by rfl) (o : fn.results.toList = rs := by rfl) (Y : bs.length <= n := by exact Nat.le_of_ble_eq_true rfl) (q : (fn.name == "runtime.NumGoroutine") = false := by decide) : VG P f bs m (.ok (a, m')) := by
 refine⟨⟨fn,K,by rw[hb];rfl,q⟩,λw X C ρ vs hl Z=>?_⟩;refine Cz n rs K hb W o Oo ?_;have L:=h.run _ _ _ _ _ ⟨C,ρ,Z⟩;unfold EvCode at L ⊢;intro r hF;refine wp_seq (Go.wp_mono (L r hF) λe i w1 s=>?_);obtain⟨O,v,d,A,b,z⟩:=s;cases e with
 |normal=>
  have d:O.d=[]:=d;have R:=(show VCode P n cx A _ from b).run _ _ _ _ _ z;unfold EvCode at R;refine wp_seq (Go.wp_mono (R i v) λe T w2 D=>?_);obtain⟨s2,E,F,A2,b,H⟩:=D;cases e with
  |normal=>exact CA k V b E ((show s2.d=O.d from F).trans d) H
  |exit id=>exact b.elim
  |goto l=>exact b.elim
  |ret=>exact b.elim
  |panic ch=>exact b.elim
  |outgrown=>exact b.elim
 |exit id=>exact b.elim
 |goto l=>exact b.elim
 |ret=>exact b.elim
 |panic ch=>exact b.elim
 |outgrown=>exact b.elim
end
end Go.Wx
namespace Tm
open Go Go.Wx Cd
section
variable{U:Type}{one:U×List Nd ->Nd ->Int ->Option (U×List Nd)}
mutual
theorem sT{wt:U ->Nat}{G:Nat}(q:1<=G)(h:∀u l n d i j,one (u,l) n d=some (i,j) ->j.length+wt i<=l.length+wt u+G):∀(x:Tr) (d nb:Int) (u:U) (l:List Nd) (i:U) (j:List Nd),wT one cE x d nb (u,l)=some (i,j) ->j.length+wt i<=l.length+wt u+G*(row x).length
 | .mk n ks,d,nb,u,l,i,j,e=>by
  simp only[wT]at e;split at e
  ·cases e
  ·rename_i r b
   obtain⟨k,o⟩:=r;have s:o.length+wt k<=l.length+wt u+G:=by
    split at b
    ·simp only[cE,Option.some.injEq,Prod.mk.injEq]at b
     rw[<- b.1,<- b.2];simp;omega
    ·exact h _ _ _ _ _ _ b
   have v:=CB q h ks n nb 0 d k o i j e;simp only[row,JV,Nat.mul_add];omega
theorem CB{wt:U ->Nat}{G:Nat}(o:1<=G)(h:∀u l n d b i,one (u,l) n d=some (b,i) ->i.length+wt b<=l.length+wt u+G):∀(ks:List Tr) (n:Nd) (nb k d:Int) (u:U) (l:List Nd) (b:U) (i:List Nd),wK one cE ks n nb k d (u,l)=some (b,i) ->i.length+wt b<=l.length+wt u+G*(rows ks).length
 |[],n,nb,k,d,u,l,b,i,e=>by
  simp only[wK,Option.some.injEq,Prod.mk.injEq]at e;rw[e.1,e.2];simp[rows]
 |x::r,n,nb,k,d,u,l,b,i,e=>by
  simp only[wK]at e;split at e
  ·cases e
  ·rename_i v j
   obtain⟨q,s⟩:=v;have w:=sT o h x _ _ u l q s j;have z:=CB o h r n nb (k+1) d q s b i e;simp only[rows,JK,Nat.mul_add];omega
end
end
end Tm
namespace Go.Proofs.YtjnjbghlemiklaaGreat
open Go.Wx Cd Tm Lv
def exL:List (Nat×List AC) ->Nat ->Nat ->List (Nat×SE)
 |[],_,_=>[]
 |(T,cs)::r,k,g=>(k,.st g T cs)::exL r (k+1) (g+1)
def xp{σ:Type}(c:σ ->List (Nat×List AC)):Prop:=∃(T0 T1 T2 T3 T4:Nat) (g:FuncId) (p0 p1 p2 p3:σ ->PV),
 (c=λu=>[(T0,[.p (p0 u)]),(T1,[.p (p1 u)])]) \/(c=λu=>[(T0,[.p (p0 u)]),(T1,[.fn g [102]]),(T2,[.p (p1 u)])]) \/
 (c=λu=>[(T0,[.p (p0 u)]),(T1,[.fn g [102,103,104]]),(T2,[.p (p1 u)]),(T3,[.p (p2 u)]),(T4,[.p (p3 u)])]) \/c=λu=>[(T0,[.p (p0 u)]),(T1,[.fn g [102,103]]),(T2,[.p (p1 u)]),(T3,[.p (p2 u)])]
abbrev lC(l:List Nd):SE:=.rw 42 3 (l.map ndP)
section
variable{σ:Type}(c:σ ->List (Nat×List AC))(f:FuncId)(t:List Nd)
def wM(r:Nat)(p:Nat)(u:σ)(l:List Nd):List (Nat×SE):=
 (r,lC l)::(1,.st 1 29 [.p (ah t)])::(2,.st 2 3 [.p (pI p)])::(3,.st 3 192 [.fn f [100,101]])::(4,.st 4 29 [.row r])::(5,.st 5 211 [.fn 188 [1,2,3,4,5]])::exL (c u) 100 6
def One(wt:σ ->Nat)(one:σ×List Nd ->Nd ->Int ->Option (σ×List Nd))(M:Nat)(er:Int):Prop:=
 ∀(u:σ) (l:List Nd) (n:Nd) (d:Nat),aw n=true ->d<=100000 ->l.length+wt u<=M ->VG prog f [.c (.row 0),.c (.p (oK n)),.c (.p (pI d)),.c (.ptr 100 0),.c (.ptr 101 0)] ((0,lC l)::exL (c u) 100 1) (match one (u,l) n d with
  |some s=>.ok (.c (.row 10),(10,lC s.2)::exL (c s.1) 100 1)
  |none=>.error (qu er))
def xq(n k:Nat):Nat:=match Nat.ble 100 k with
 |true=>k-n
 |false=>k
def CD{σ:Type}{c:σ ->List (Nat×List AC)}{f:FuncId}{one:σ×List Nd ->Nd ->Int ->Option (σ×List Nd)}{wt:σ ->Nat}{M:Nat}{er:Int}(_:One c f wt one M er)(u:σ):List (Nat×SE):=exL (c u) 100 6
theorem H6(c6:xp c)(wt:σ ->Nat)(one:σ×List Nd ->Nd ->Int ->Option (σ×List Nd))(M:Nat)(er:Int)(G:Nat)(hG:1<=G)(hM:M<=100000000)(T:One c f wt one M er)(w:∀u l n d u' l',one (u,l) n d=some (u',l') ->l'.length+wt u'<=l.length+wt u+G)(ht:t.length<=100000):
  ∀(N:Nat) (x:Tr) (j:List Nd) (p:Nat) (u:σ) (l:List Nd) (d:Nat),(row x).length<=N ->Ok .tm x ->t.drop p=row x++j ->d+4*(row x).length<=100000 ->l.length+wt u+G*(row x).length<=M ->
   VG prog 188 [.c (.p (pI d)),.c (.ptr 1 0),.c (.ptr 2 0),.c (.ptr 3 0),.c (.ptr 4 0),.c (.ptr 5 0)] (wM c f t 0 p u l) (match wT one cE x d 0 (u,l)with
    |some s=>.ok (.c (.p (.tup [])),wM c f t 10 (p+(row x).length) s.1 s.2)
    |none=>.error (qu er)):=by
 intro N
 induction N using Nat.strongRecOn with
 |_ N ih=>
 rintro⟨n,ks⟩ j p u l d hN hx O hd hl;obtain⟨hp,h3,a9⟩:=hx.tm;obtain⟨hc,a',b7⟩:=hx.kids;have b8:=db hp;have eT:=ak ndP t;have h1:=T u l n d hp Oo (by simp[row]at hl;have:0<=G*((rows ks).length+1):=KV _;omega);generalize b:wT one cE (.mk n ks) d 0 (u,l)=a3;simp only[wT,if_neg (show ¬ (n.op=3 \/n.op=13) by simp[h3,a9])]at b;simp only[row,List.cons_append,JV]at O hN hd hl ⊢;generalize hQ:p+((rows ks).length+1)=Q;have d4:p<t.length:=by
  rcases Nat.lt_or_ge p t.length with h|h
  ·exact h
  ·rw[JY h]at O;cases O
 have hn:t[p]?=some n:=by
  have:=congrArg List.head? O;rw[List.head?_drop]at this;exact this
 have V:t.drop (p+1)=rows ks++j:=by rw[<- List.drop_drop,O];rfl
 obtain⟨T0,T1,T2,T3,T4,g,p0,p1,p2,p3,rfl|rfl|rfl|rfl⟩:=c6
 all_goals
  refine cI 70 [] τok func188 ?_;refine aC τok<|vm (p:=ndP) p hn ?_;refine aC τok<|vi ?_;refine aC τok ?_;cases hr:one (u,l) n d with
  |none=>
   rw[hr]at h1 b;subst b;refine mh id h1 ?_;exact rfl
  |some r=>
  rw[hr]at h1 b;refine bv id (λk=>k-94) h1 ?_;obtain⟨u1,l1⟩:=r;have c7:=w _ _ _ _ _ _ hr;simp only at b c7;rw[Nat.mul_add]at hl;have d5:(rows ks).length<=G*(rows ks).length:=Nat.le_mul_of_pos_left _ hG;have d6:t.length-(p+1)=(rows ks).length+j.length:=by rw[<- List.length_drop,V,JK]
  obtain⟨v,e⟩:∃v,v=(if n.op=2 then []else ks):=⟨_,rfl⟩
  refine dB τok (σ:=Nat×List Nd) [(0,_),(1,_),(2,_),(3,_),(4,_),(5,_),(7,_)] ([(1,_),(3,_),(5,_),(7,_)]++CD T u1) (λ_=>[]) (λq=>[(2,.st 2 3 [.p (pI q.1)]),(0,lC q.2),(4,.st 4 29 [.row 0])]) (λq=>wK one cE v n 0 0 d (u1,q.2)=a3/\t.drop q.1=rows v++j/\q.2.length+wt u1+G*(rows v).length<=M/\Q=q.1+(rows v).length) ?_ ?_
  ·refine ae (λD=>?_) (λD=>?_)
   ·have D:n.op=2:=D
    rw[if_pos D]at e;subst e;have d7:(rows ks).length=ks.length:=pS' D a';obtain⟨_,_,_,b0⟩:=eb hc;rw[if_pos D]at b0;have d8:n.b=((rows ks).length:Int):=Oo
    rw[BG one ks n 0 0 d (u1,l1) a' D]at b;refine vi ?_;refine bC (p+1) (p+1+(rows ks).length) ?_ (λx hx=>by obtain⟨y,_,rfl⟩:=List.mem_map.1 hx;rfl) rfl;rw[<- List.map_take,<- List.map_drop,List.drop_take,V,Nat.add_sub_cancel_left,List.take_left];refine va ?_ (fN _);refine vk ?_;refine vi ?_;exact au (p+1+(rows ks).length,l1++rows ks) ⟨by simpa[wK]using b,by
     show t.drop (p+1+(rows ks).length)=_;rw[<- List.drop_drop,V,List.drop_left];simp[rows],by simp[rows];omega,by simp[rows];omega⟩ (f:=λk=>sw 0 31 k) (y':=⟨congrArg (λz=>some (SE.st 2 3 [.p (pI z)])) (by show _=((p+1+(rows ks).length:Nat):Int);omega),congrArg (λl=>some (SE.rw _ _ l)) (List.map_append (f:=ndP)).symm,rfl,trivial⟩)
   ·have D:¬ n.op=2:=D
    rw[if_neg D]at e;subst e;exact au (p+1,l1) ⟨b,V,OS,OS⟩ (f:=λk=>sw 0 10 k)
  have W:bp n=(v.length:Int)/\okL cnt nx v n .tm 0/\eN' v=true:=by
   obtain⟨_,_,_,b0⟩:=eb hc;have d9:=mn hp
   by_cases D:n.op=2
   ·rw[if_pos D]at e
    subst e;exact⟨by simp[bp,D],trivial,rfl⟩
   ·rw[if_neg D]at e b0
    subst e;exact⟨Oo,a',b7⟩
  have b9:(rows v).length<=(rows ks).length:=by
   rw[e];split
   ·simp[rows]
   ·exact KJ _
  have b':n.op=2 ->v=[]:=λh=>by rw[e,if_pos h]
  clear b hr h1 e hc
  rintro⟨p6,l6⟩ ⟨b,b1,b2,b3⟩;simp only at b b1 b2 b3;have d2:v.length<=(rows v).length:=by rw[rows_len];exact kC' v
  refine aC τok<|af (xn n ⟨b8.1,b8.2.1⟩) ?_;rw[W.1];refine VCode.blk<|az τok (σ:=Nat×Nat×σ×List Nd×List Tr) [(0,_),(1,_),(2,_),(3,_),(4,_),(5,_),(7,_),(37,_)] [(1,_),(3,_),(5,_),(7,_)] (λq=>[(38,vI q.1)]) (λq=>(2,.st 2 3 [.p (pI q.2.1)])::(0,lC q.2.2.2.1)::(4,.st 4 29 [.row 0])::CD T q.2.2.1) (λq=>q.1<=v.length/\q.2.2.2.2.length=v.length-q.1/\wK one cE q.2.2.2.2 n 0 q.1 d (q.2.2.1,q.2.2.2.1)=a3/\t.drop q.2.1=rows q.2.2.2.2++j/\q.2.2.2.1.length+wt q.2.2.1+G*(rows q.2.2.2.2).length<=M/\Q=q.2.1+(rows q.2.2.2.2).length/\okL cnt nx q.2.2.2.2 n .tm 0/\eN' q.2.2.2.2=true/\(rows q.2.2.2.2).length<=(rows ks).length) (λq=>v.length-q.1) (0,p6,u1,l6,v) ⟨KV _,rfl,b,b1,b2,b3,W.2.1,W.2.2,b9⟩ ?_
  clear b b1 b2 b3 O V
  rintro⟨i,p7,u7,l7,a5⟩ ⟨hi,R,b,E,X,Y,a6,Z,L⟩;simp only at hi R b E X Y a6 Z L;refine aj τok<|ae (λg=>?_) (λg=>?_);rotate_left
  ·have g:¬ (i:Int)<v.length:=g
   obtain rfl:a5=[]:=List.length_eq_zero_iff.1 Oo;simp only[wK]at b;subst b;obtain rfl:Q=p7:=by simpa[rows]using Y
   exact .inl ⟨_,_,_,λk=>sw 10 0 k,rfl,rfl,rfl,rfl,by repeat first|exact True.intro|refine And.intro rfl ?_,rfl⟩
  have g:(i:Int)<v.length:=g
  match a5,R with
  |[],R=>simp at R;omega
  |y::r,R=>
  obtain⟨F,a7,a0⟩:=jH a6 Z;simp only[rows,JK,List.append_assoc,Nat.mul_add]at E X Y L;simp only[JV]at R;simp only[wK]at b;refine ae (λC=>?_) (λC=>?_)
  ·have C:n.op=12:=C
   have F:Ok .fn y:=by rwa [show nx Md.tm n 0= .fn by simp[nx,C]]at F
   obtain⟨f,H,I,rfl,b4,d',c0,c1⟩:=F.fn;have e0:1<=n.b/\n.b<=4:=by
    have:aE n.b 1 4=true:=by simp[aw,C]at hp;exact hp.1
    exact dq.1 this
   obtain⟨Bn,c2⟩:∃Bn:Nat,n.b=Bn:=⟨n.b.toNat,Oo⟩
   have b5:H.n.op≠13:=by
    obtain⟨m,l⟩:=H;exact c0.tm.2.2
   have b6:I.n.op≠13:=by
    obtain⟨m,l⟩:=I;exact c1.tm.2.2
   rw[show row (.mk f [H,I])=f::(row H++row I) by simp[row,rows]]at E X Y L;simp only[List.cons_append,List.append_assoc,JV,JK]at E X Y L;obtain⟨c8,d3,c3⟩:=BM E;have c9:wT one cE (.mk f [H,I]) ((d:Int)+arC n 0 i) n.b (u7,l7)=match wT one cE H d 0 (u7,l7++[f])with
     |none=>none
     |some s1=>wT one cE I ((d+Bn:Nat):Int) 0 s1:=by
    have c':aY n i=0:=by simp[aY,C]
    simp only[wT,b4,or_true,if_true,cE,wK];rw[lz a9,c',show arC f n.b 0=0 by simp[arC,b4],show arC f n.b (0+1)=n.b by simp[arC,b4],wB b5 _ f.b 0,Int.add_zero,Int.add_zero];cases wT one cE H (d:Int) 0 (u7,l7++[f])with
    |none=>rfl
    |some s1=>
     simp only;rw[wB b6 _ f.b 0,c2,show (d:Int)+(Bn:Int)=((d+Bn:Nat):Int) by omega];cases wT one cE I ((d+Bn:Nat):Int) 0 s1<;>rfl
   rw[c9]at b;have d0:G*1<=G*(rows ks).length:=Nat.mul_le_mul_left _ Oo;simp only[Nat.mul_add,Nat.mul_one]at X d0;refine vm (p:=ndP) p7 c8 ?_;refine aV ?_;refine vk ?_;refine vi ?_;have o:=ih (row H).length Oo H (row I++(rows r++j)) (p7+1) u7 (l7++[f]) d (KJ _) c0 c3 Oo (by rw[JK];simp only[JV,JU];omega);simp only[wM,lC,List.map_append]at o;cases K:wT one cE H d 0 (u7,l7++[f])with
   |none=>
    rw[K]at o b;subst b;refine mh (λk=>sw 0 50 k) o ?_;exact rfl
   |some s1=>
   rw[K]at o b;obtain⟨u8,l8⟩:=s1;have a1:=sT hG w H _ _ _ _ _ _ K;rw[JK]at a1;simp only[JV,JU]at a1;refine bv (λk=>sw 0 50 k) (xq 94) o ?_;refine vi ?_;rw[c2];have a8:t.drop (p7+1+(row H).length)=row I++(rows r++j):=by rw[<- List.drop_drop,c3,List.drop_left]
   have a4:=ih (row I).length Oo I (rows r++j) (p7+1+(row H).length) u8 l8 (d+Bn) (KJ _) c1 a8 Oo Oo;cases a2:wT one cE I ((d+Bn:Nat):Int) 0 (u8,l8)with
   |none=>
    rw[a2]at a4;rw[show a3=none from b.symm.trans (by simp only;rw[a2])];refine mh (λk=>sw 0 10 k) a4 ?_;exact rfl
   |some s2=>
   rw[a2]at a4;obtain⟨u9,l9⟩:=s2;have b:wK one cE r n 0 ((i:Int)+1) d (u9,l9)=a3:=by rw[<- b];simp only;rw[a2]
   have d1:=sT hG w I _ _ _ _ _ _ a2;refine bv (λk=>sw 0 10 (sw 10 11 k)) (xq 94) a4 ?_;refine vi ?_;exact au (i+1,p7+1+(row H).length+(row I).length,u9,l9,r) ⟨by show i+1<=_;omega,by show r.length=_;omega,b,by rw[<- List.drop_drop,a8,List.drop_left],by show l9.length+wt u9+G*(rows r).length<=M;omega,by show Q=p7+1+(row H).length+(row I).length+(rows r).length;omega,a7,a0,by show (rows r).length<=_;omega⟩ (f:=λk=>sw 0 11 k)
  have C:¬ n.op=12:=C;have D:¬ n.op=2:=λh=>by
   rw[b' h]at g;simp at g;omega
  have F:Ok .tm y:=by rwa [show nx Md.tm n 0= .tm by simp[nx,D,C]]at F
  have e2:=wC n i;obtain⟨e1,c4⟩:∃e1:Nat,(d:Int)+aY n i=e1:=⟨((d:Int)+aY n i).toNat,Oo⟩
  have c5:y.n.op≠13:=by
   obtain⟨m,l⟩:=y;exact F.tm.2.2
  rw[lz a9,c4,wB c5 _ n.b 0]at b;have o:=ih (row y).length Oo y (rows r++j) p7 u7 l7 e1 (KJ _) F E Oo Oo;refine af (Cy n i) ?_;refine vi ?_;rw[c4];cases K:wT one cE y e1 0 (u7,l7)with
  |none=>
   rw[K]at o b;subst b;refine mh id o ?_;refine vk ?_;exact rfl
  |some s1=>
   rw[K]at o b;obtain⟨u8,l8⟩:=s1;have a1:=sT hG w y _ _ _ _ _ _ K;refine bv id (xq 94) o ?_;refine vk ?_;refine vi ?_;exact au (i+1,p7+(row y).length,u8,l8,r) ⟨by show i+1<=_;omega,by show r.length=_;omega,b,by rw[<- List.drop_drop,E,List.drop_left],by show l8.length+wt u8+G*(rows r).length<=M;omega,by show Q=p7+(row y).length+(rows r).length;omega,a7,a0,by show (rows r).length<=_;omega⟩ (f:=λk=>sw 0 10 k)
end
end Go.Proofs.YtjnjbghlemiklaaGreat
namespace Go.Wx
theorem xr{P:Program}{f:FuncId}{i:List Nat}{m:List (Nat×SE)}(j:dz P f)(h:∀vs:List Value,vs.length=i.length ->∀w,CallsD P f vs.toArray .returning w λe l w'=>(∃v,e= .returned v)/\l= .returning/\Kp [] w w'):VD P f .returning i m m:=⟨j,λw X C ρ q=>(h (i.map ρ) Od w).mono λe l w' ⟨r,s,d⟩=>⟨r,by rw[s];rfl,C,ρ,by
 have:=q.grow d (q.sub.kp d λ_ _ _ _ h=>by cases h) (λ_ _ _ h=>h) λb o v h=>.inl ⟨o,v,h⟩;exact⟨λt a z=>(by cases z),λk x d=>(by have:=this.ent k x d;cases x<;>exact this),this.sep,this.off,this.sub,this.c0,this.cn,this.kp⟩⟩⟩
theorem xt{P:Program}{w:World}{X:List Nat}{C:Mem}{ρ:Nat ->Value}{j:List Nat}{m m2:List (Nat×SE)}{n q p k T:Nat}{z:Int}{d:Code}{l:Act}(O:Rp w X C ⟨kd' (jb j) 0,m⟩ ⟨ini (j.map ρ) 0,[]⟩ w C ρ)
  (h:VCode P n d ⟨(p,.c (.p (.bool true)))::(q,.c (.ptr k 0))::kd' (jb j) 0,(k,.st 0 T [.p (pI z)])::m⟩ λe A=>e= .normal/\lr id A m2) (R:Fr n l ⟨(p,.bool true)::(q,.pointer (some ⟨w.heap.size,0,none⟩))::ini (j.map ρ) 0,[]⟩) (r:nrb ⟨kd' (jb j) 0,m⟩ [k]=true:=by rfl) (s:injB id (keysOf m2)=true:=by rfl):
  d.wp P (λe I w'=>e= .normal/\∃s',Fr n I s'/\s'.d=[]/\∃C' ρ',Rp w X C ⟨[],m2⟩ ⟨[],[]⟩ w' C' ρ') l (w.alloc (Obj.cells #[.int .i64 z] T)):=by
 have r:=p8 r k Od;have V:=O.fresh (s':=⟨(q,.pointer (some ⟨w.heap.size,0,none⟩))::ini (j.map ρ) 0,[]⟩) (w':=w.alloc (Obj.cells #[.int .i64 z] T)) (v:=.pointer (some ⟨w.heap.size,0,none⟩)) (x:=.st 0 T [.p (pI z)]) (wr:=[(q,.c (.ptr k 0))]) r (Kp.alloc _ _) (λg W=>Nat.le_of_eq (JB W)) ⟨w.heap.size,[.int .i64 z],fA _ _ _,by
  show (w.heap.push _)[_]?=_;simp,.inl ⟨rfl,KJ _⟩,rfl,λi c u K Y=>by
   cases i with
   |zero=>
    obtain rfl:=JB K;obtain rfl:=JB Y;exact⟨rfl,λ_=>RV.int _ _⟩
   |succ i=>simp at K⟩ (λt a D=>by
  obtain⟨rfl,rfl⟩:=bN D;exact⟨_,by rw[dR,Nat.beq_refl],_,fA _ _ _,rfl⟩) λt b=>by
  rw[cz]at b;rw[dR];cases E:Nat.beq q t with
  |true=>rw[E]at b;cases b
  |false=>rfl
 have Z:=V.slots (s':=⟨(p,.bool true)::(q,.pointer (some ⟨w.heap.size,0,none⟩))::ini (j.map ρ) 0,[]⟩) (wr:=[(p,.c (.p (.bool true)))]) (λt a D _=>by
  obtain⟨rfl,rfl⟩:=bN D;exact⟨_,by rw[dR,Nat.beq_refl],RV.bool _⟩) λt b=>by
  rw[cz]at b;rw[dR];cases E:Nat.beq p t with
  |true=>rw[E]at b;cases b
  |false=>rfl
 have L:=h.run _ _ _ _ _ ⟨C,_,Z⟩;unfold EvCode at L;refine Go.wp_mono (L l R) λe I w' ⟨s',F,hd,A',⟨he,hm⟩,H⟩=>⟨he,s',F,hd,?_⟩
 obtain⟨C',ρ',o⟩:=H.le (gR (f:=id) (B:=⟨[],m2⟩) True.intro hm s);exact⟨C',ρ',λt a b=>(by cases b),o.ent,o.sep,o.off,o.sub,o.c0,o.cn,o.kp⟩
end Go.Wx
namespace Go.Proofs.YtjnjbghlemiklaaGreat
open Go.Wx Cd Tm Lv
theorem CE':VD prog 187 .returning [0,1] [] []:=by
 refine xr ⟨_,func187,rfl,OO⟩ λo i w=>?_;obtain⟨q,r,rfl⟩:=xi i;refine callsD_of_wpS func187 rfl λb v d=>?_;apply wpS_seq;apply wpS_region;simp[wpOpsS,go_sem,recoverD,d,Exit.thenS,Instr.typeAssert,underlying209,Tryz.zeroValue209];refine wpS_of_wp (Go.wp_mono (kY τok (n:=12) _ ⟨[(3,.bool false)],[]⟩ _ (λe s h=>e= .normal/\s.d=[]/\Kp [] w h) ?_ _ (nI Od rfl Od)) ?_)
 ·exact⟨rfl,rfl,Kp.alloc _ _⟩
 rintro e z h ⟨s,j,rfl,k,l⟩;exact sK j k rfl d ⟨⟨_,rfl⟩,rfl,l⟩
def wc(x y:PV):List (Nat×SE):=[(0,.st 1 29 [.p x]),(1,.st 2 34 [.p y])]
theorem H7(er:Int){x y:PV}:VD prog 187 (.panicking (qu er)) [0,1] (wc x y) (wc (.raw (.slice none 0 0)) (pI er)):=by
 refine⟨⟨_,func187,rfl,OO⟩,λw X C ρ h=>?_⟩;refine callsD_of_wpS func187 rfl λd v i=>?_;apply wpS_seq;apply wpS_region;simp[wpOpsS,go_sem,recoverD,i,Exit.thenS,Instr.typeAssert,underlying209,Tryz.zeroValue209];refine wpS_of_wp (Go.wp_mono (xt (n:=12) (m2:=wc (.raw (.slice none 0 0)) (pI er)) (q:=2) (p:=3) (k:=2) h (aj τok ?_) (nI Od rfl (by simp[ini]))) ?_)
 ·refine vk ?_
  exact⟨rfl,rfl,rfl,trivial⟩
 rintro e z D ⟨rfl,s,j,l,o,b,r⟩;exact wH j l rfl ⟨⟨_,rfl⟩,rfl,o,b,r⟩
def oA:Bool ->AV
 |true=>.c (.row 0)
 |false=>.c (.p (.raw (.slice none 0 0)))
def oM(l:List Nd)(m:List (Nat×SE)):Bool ->List (Nat×SE)
 |true=>(0,lC l)::m
 |false=>m
def hW:Nat ->Nat
 |1=>3
 |2=>8
 |3=>5
 |5=>9
 |k=>k
def wR{σ:Type}(c:σ ->List (Nat×List AC))(er:Int):Option (σ×List Nd) ->AV×List (Nat×SE)
 |some s=>(.tp [.row 10,.p (pI 0)],(10,lC s.2)::exL (c s.1) 100 1)
 |none=>(.c (.p (.tup [.sl [],pI er])),[])
section
variable{σ:Type}(c:σ ->List (Nat×List AC))(f:FuncId)
theorem xu(h:xp c)(wt:σ ->Nat)(one:σ×List Nd ->Nd ->Int ->Option (σ×List Nd))(M:Nat)(er:Int)(G:Nat)(v:1<=G)(w:M<=100000000)(i:One c f wt one M er)(e:∀u l n d o q,one (u,l) n d=some (o,q) ->q.length+wt o<=l.length+wt u+G)
  (b:Bool) (x:Tr) (z:Ok .tm x) (s:(row x).length<=20000) (u:σ) (l:List Nd) (hb:b=false ->l=[]) (hl:l.length+wt u+G*(row x).length<=M):VG prog 152 [.c (.p (ah (row x))),oA b,.c (.fn f [100,101])] (oM l (exL (c u) 100 1) b) (.ok (wR c er (wT one cE x 0 0 (u,l)))):=by
 have j:=H6 c f (row x) h wt one M er G v w i e Oo _ x [] 0 u l 0 (KJ _) z Od Oo hl;rw[show ((0:Nat):Int)=0 from rfl]at j
 generalize wT one cE x 0 0 (u,l)=r at j ⊢
 rcases r with _|⟨o,q⟩
 all_goals
  obtain⟨C,D,E,F,H,g,I,K,L,O,rfl|rfl|rfl|rfl⟩:=h
  all_goals
   cases b
   all_goals
    refine oL 15 [.cell 6 29,.cell 7 34] τok func152 ?_;refine aj τok<|⟨⟨rfl,rfl,rfl⟩,rfl,λfv=>?_⟩
    first
     |obtain rfl:=hb rfl
      refine jE 4 0 0 42 3 rfl rfl rfl OO ?_
     |skip
    refine aj τok ?_
    first
     |refine mh hW j ?_
      refine jP (λk=>k+6) (λ_=>0) (H7 er) ?_;exact .inl ⟨_,_,_,id,rfl,rfl,rfl,rfl,trivial,rfl⟩
     |refine bv hW (λk=>k-99) j ?_
      refine jP (λk=>k+6) (λ_=>0) CE' ?_;exact .inr ⟨_,id,rfl,rfl,by repeat first|exact True.intro|refine And.intro rfl ?_,rfl⟩
end
theorem H8(t:List Nd)(H:t.length<=1000000000)(d c:Nat)(ha:d<=2000000000)(hc:c<=1000):VC prog 199 [ah t,pI d,pI c] (pI (opI (gb t c (-1) d))):=by
 have I:=ak ndP t;generalize o:opI (gb t c (-1) d)=e;refine vf 49 [.tmp 6] τok func199 ?_;refine vl τok (σ:=Nat×Int×Nat) [(0,_),(8,_)] (λq=>[(1,vI q.2.2),(7,vI q.2.1),(9,vI q.1)]) (λq=>q.1<=c/\q.2.2<=max d t.length/\opI (gb t (c-q.1) q.2.1 q.2.2)=e) (λq=>c-q.1) (0,-1,d) ⟨KV _,Nat.le_max_left _ _,o⟩ ?_;rintro⟨i,j,p⟩ ⟨E,F,b⟩;simp only at E F b;have w:opI none=e ->gz' [PV.nz (pI (-1))]=pI e:=λh=>by rw[<- h];rfl
 refine ae (λg=>?_) (λg=>?_);rotate_left
 ·rw[show c-i=0 by omega]at b
  exact⟨_,_,rfl,rfl,congrArg (PV.int .i64) b⟩
 obtain⟨k,z⟩:∃k,c-i=k+1:=⟨c-i-1,Oo⟩
 rw[z]at b;simp only[gb]at b;refine ae (λr=>?_) (λr=>?_)
 ·have r:(p:Int)≥((t.map ndP).length:Int):=r
  rw[List.getElem?_eq_none Oo]at b;exact⟨_,_,rfl,rfl,w b⟩
 have r:¬ (p:Int)≥((t.map ndP).length:Int):=r;obtain⟨n,s,_⟩:=ay (l:=t) (k:=p);rw[s]at b;simp only at b;refine vm p s ?_;refine ae (λC=>?_) (λC=>?_)
 ·rw[if_neg λq=>C q.1]at b
  exact⟨_,_,rfl,rfl,w b⟩
 refine vm p s ?_;refine bH (xm n) (λD=>?_) (λD=>?_);rotate_left
 ·rw[if_neg λq=>by rw[D]at q;exact absurd q.2.1 OO]at b
  exact⟨_,_,rfl,rfl,w b⟩
 refine vm p s ?_;refine ae (λv=>?_) (λv=>?_)
 ·have v:n.a<=j:=v
  rw[if_neg λq=>by have:=q.2.2;omega]at b;exact⟨_,_,rfl,rfl,w b⟩
 have v:¬ n.a<=j:=v;rw[if_pos ⟨Decidable.of_not_not C,D,Oo⟩]at b;refine vm p s ?_;refine vi ?_;refine vi ?_;exact au (i+1,n.a,p+1) ⟨by show i+1<=c;omega,by show p+1<=max d t.length;omega,by show opI (gb t (c-(i+1)) n.a (p+1))=e;rw[show c-(i+1)=k by omega];exact b⟩
theorem CE(t:List Nd)(ht:t.length<=1000000000):∀(N:Nat) (w:Int),-1<=w ->w<=1000000000 ->(0<=w ->t.length-w.toNat<=N) ->VC prog 168 [ah t,pI w] (pI (oD t w)):=by
 intro N
 induction N using Nat.strongRecOn with
 |_ N ih=>
 intro w a4 a5 hN;have eT:=ak ndP t;refine vf 90 [.tmp 4] τok func168 ?_;refine ae (λg0=>?_) (λg0=>?_)
 ·exact⟨_,_,rfl,rfl,by unfold oD;rw[if_pos g0];rfl⟩
 obtain⟨b,rfl⟩:∃n:Nat,w=n:=⟨w.toNat,Oo⟩
 have hN:t.length-b<=N:=hN Oo;rw[qt];generalize d:opI (endS t .tm b)=j;have e:(∀m,t[b]?=some m ->cnt .tm m=none) ->gz' [PV.nz (pI (-1))]=pI j:=λh=>by
  rw[sJ t .tm h]at d;rw[<- d]
  rfl
 refine ae (λg1=>?_) (λg1=>?_)
 ·exact⟨_,_,rfl,rfl,e λn s=>by rw[List.getElem?_eq_none Oo]at s;cases s⟩
 have K:b<t.length:=Oo
 obtain⟨n,s,_⟩:=ay K;have W:(∀m,m=n ->cnt .tm m=none) ->gz' [PV.nz (pI (-1))]=pI j:=λh=>e λm v=>h m (by rw[s]at v;exact(JB v).symm);refine vm b s ?_;refine bH (xm n) (λE=>?_) (λE=>?_);rotate_left
 ·exact⟨_,_,rfl,rfl,W λm h=>by subst h;simp[cnt,E]⟩
 refine vm b s ?_;refine ae (λX=>?_) (λX=>?_)
 ·exact⟨_,_,rfl,rfl,W λm h=>by subst h;simp[cnt,X]⟩
 refine vm b s ?_;refine ae (λY=>?_) (λY=>?_)
 ·exact⟨_,_,rfl,rfl,W λm h=>by subst h;simp[cnt,Y]⟩
 refine vm b s ?_;refine vi ?_;have L:=db E;refine ae (λF=>?_) (λF=>?_)
 ·obtain⟨c,O⟩:∃c:Nat,n.b=c:=⟨n.b.toNat,Oo⟩
  rw[BA t s F E,O,Int.toNat_natCast]at d;have:=H8 t ht (b+1) c Oo Oo;rw[d,<- O]at this;refine af this ?_;exact eA9
 have a6:=mn E;refine af (xn n ⟨L.1,L.2.1⟩) ?_;obtain⟨c,O⟩:∃c:Nat,bp n=c:=⟨(bp n).toNat,Oo⟩
 rw[O];have Z:cnt .tm n=some c:=by simp[cnt,E,X,Y,F,O]
 obtain⟨C,l⟩:∃C,C=(if n.op=12 then Md.fn else Md.tm):=⟨_,rfl⟩
 rw[qs t .tm s Z (λ_=>F) (s':=C) (λk=>by simp[nx,F,l]) F]at d;refine az τok (σ:=Nat×Nat) [(0,_),(5,_),(53,_)] [(5,_)] (λq=>[(1,vI q.2),(54,vI q.1)]) (λ_=>[]) (λq=>q.1<=c/\b<q.2/\q.2<=t.length/\opI (fZ t C (c-q.1) q.2)=j) (λq=>c-q.1) (0,b+1) ⟨KV _,Nat.lt_succ_self _,K,d⟩ ?_
 clear d
 rintro⟨i,p⟩ ⟨hi,a0,a1,o⟩;simp only at hi a0 a1 o;refine aC τok<|ae (λg=>?_) (λg=>?_);rotate_left
 ·rw[show c-i=0 by omega]at o
  exact aj τok<|⟨_,_,rfl,rfl,congrArg (PV.int .i64) o⟩
 obtain⟨k,a2⟩:∃k,c-i=k+1:=⟨c-i-1,Oo⟩
 rw[a2]at o;simp only[fZ]at o;refine aC τok<|VCode.seq (VCode.blk<|dB τok (σ:=Option Nat) [(0,_),(5,_),(53,_),(54,_)] [(5,_)] (λr=>[(1,vI (opI r))]) (λ_=>[]) (λr=>(∀z,r=some z ->p<=z/\z<=t.length)/\opI ((r.bind λa=>endS t .tm a).bind λa=>fZ t C k a)=j) ?_ ?_)
 ·refine ae (λD=>?_) (λD=>?_)
  ·rw[if_pos D]at l
   have R:(∀m,t[p]?=some m ->cnt .fn m=none) ->gz' [PV.nz (pI (-1))]=pI j:=λh=>by
    rw[l,sJ t .fn h]at o;rw[<- o]
    rfl
   refine ae (λq1=>?_) (λq1=>?_)
   ·exact⟨_,_,rfl,rfl,R λm v=>by rw[List.getElem?_eq_none Oo]at v;cases v⟩
   have T:p<t.length:=Oo
   obtain⟨m,v,_⟩:=ay T;have V:(∀x,x=m ->cnt .fn x=none) ->gz' [PV.nz (pI (-1))]=pI j:=λh=>R λx hx=>h x (by rw[v]at hx;exact(JB hx).symm);refine vm p v ?_;refine ae (λH=>?_) (λH=>?_)
   ·exact⟨_,_,rfl,rfl,V λx h=>by subst h;simp[cnt,H]⟩
   have H:m.op=13:=Decidable.of_not_not H;refine vm p v ?_;refine bH (xm m) (λq3=>?_) (λq3=>?_);rotate_left
   ·exact⟨_,_,rfl,rfl,V λx h=>by subst h;simp[cnt,q3]⟩
   refine vi ?_;have a3:endS t C p=fZ t .tm 2 (p+1):=by
    rw[l];exact qs t .fn v (c:=2) (by simp[cnt,H,q3]) (λh=>by cases h) (s':=.tm) (λk=>rfl) (by rw[H];decide)
   rw[a3]at o;simp only[fZ]at o;have h7:=ih (t.length-(p+1)) Oo ((p+1:Nat):Int) Oo Oo (λ_=>Oo);rw[qt]at h7;refine af h7 ?_;refine au (endS t .tm (p+1)) ⟨λz I=>by have:=BB I;omega,?_⟩;rw[<- o];cases endS t .tm (p+1)with
   |none=>rfl
   |some z=>cases h:endS t .tm z<;>simp[h]
  ·rw[if_neg D]at l
   refine au (some p) ⟨λz I=>by cases I;omega,?_⟩;rw[<- o,l];cases h:endS t .tm p<;>simp[h]
 rintro r ⟨m1,m2⟩;refine aj τok ?_;have h9:=ih (t.length-p) Oo (opI r) (by cases r<;>simp only[opI]<;>omega) (by cases r with
  |none=>simp[opI]
  |some z=>have:=m1 z rfl;simp only[opI];omega) (λ_=>by cases r with
  |none=>simp[opI]at *
  |some z=>have:=m1 z rfl;simp only[opI,Int.toNat_natCast];omega)
 have e9:oD t (opI r)=opI (r.bind λa=>endS t .tm a):=by cases r with
  |none=>rfl
  |some z=>exact qt t z
 rw[e9]at h9;refine af h9 ?_;have m3:∀z,(r.bind λa=>endS t .tm a)=some z ->p<z/\z<=t.length:=λz I=>by
  cases r with
  |none=>cases I
  |some y=>
   have:=m1 y rfl;have:=BB I;omega
 generalize (r.bind λa=>endS t .tm a)=r9 at *
 refine ae (λg9=>?_) (λg9=>?_)
 ·cases r9 with
  |none=>exact⟨_,_,rfl,rfl,congrArg (PV.int .i64) m2⟩
  |some z=>exact absurd g9 (by simp only[opI];omega)
 cases r9 with
 |none=>exact absurd (show opI none<0 by decide) g9
 |some z=>
  have:=m3 z rfl;refine aj τok<|vi ?_;exact au (i+1,z) ⟨by show i+1<=c;omega,by show b<z;omega,by show z<=t.length;omega,by show opI (fZ t C (c-(i+1)) z)=j;rw[show c-(i+1)=k by omega];exact m2⟩
theorem H9(t:List Nd):oD t 0=opI (endS t .tm 0):=qt t 0
theorem jQ(t:List Nd)(e:t.length<=1000000000):VC prog 133 [ah t] (pI (eg t)):=by
 have i:=ak ndP t;refine vf 11 [.tmp 2] τok func133 ?_;refine ae (λg=>?_) (λg=>?_)
 ·exact⟨_,_,rfl,rfl,by unfold eg;rw[if_pos Oo];rfl⟩
 refine af (CE t e t.length 0 OO OO λ_=>Oo) ?_;have d:=BF t;rw[H9];refine ae (λb=>?_) (λb=>?_)
 ·exact⟨_,_,rfl,rfl,by unfold eg;rw[if_neg Oo,if_neg λq=>b (by rw[d.2 q,i];rfl)];rfl⟩
 ·refine⟨_,_,rfl,rfl,?_⟩
  have b:opI (endS t .tm 0)=((t.map ndP).length:Int):=Decidable.of_not_not b;unfold eg;rw[if_neg Oo,if_pos (d.1 ?_)]
  ·rfl
  ·cases h:endS t .tm 0 with
   |none=>rw[h]at b;simp only[opI]at b;omega
   |some z=>rw[h]at b;simp only[opI]at b;congr 1;omega
def zW{σ:Type}(_:σ):Nat:=0
theorem oN{l:List Nd}{m:Nd}:l.map ndP++[ndP m]=(l++[m]).map ndP:=by rw[List.map_append];rfl
theorem Ia{T:Type}{fr by_:Int}{M:Nat}(q:0<=fr/\fr<=4194304)(hb:0<=by_/\by_<=4611686018427387904)(s:M<=100000000):One (λ_:T=>[(3,[.p (pI fr)]),(3,[.p (pI by_)])]) 171 zW (gU (fB by_ fr)) M 6:=by
 intro u l n d j v z;have o:=db j;generalize b:gU (fB by_ fr) (u,l) n d=r;unfold gU at b;refine cI 36 [.tmp 8] τok func171 ?_;refine aC τok ?_
 by_cases e:n.op=1
 ·rw[if_pos e]at b
  unfold fB at b
  by_cases h:n.a≥fr+(d:Int)
  ·rw[if_pos h]at b
   by_cases i:by_>1048576-n.a
   ·rw[if_pos i]at b
    subst b;refine aj τok<|vy ?_ e;refine vi ?_;refine vy ?_ h;refine vi ?_;refine vy ?_ i;exact qn (λw=>by simp[Instr.makeInterface,underlying209,go_sem])<|rfl
   ·rw[if_neg i]at b
    obtain rfl:r=some (u,l++[{n with a:=n.a+by_}]):=by rw[<- b];simp[row,rows]
    refine aj τok<|vy ?_ e;refine vi ?_;refine vy ?_ h;refine vi ?_;refine vn ?_ i;refine vi ?_;refine aV ?_;exact .inr ⟨_,λk=>sw 10 35 k,rfl,rfl,⟨congrArg (λl=>some (SE.rw _ _ l)) (oN (m:={n with a:=n.a+by_})),rfl,rfl,trivial⟩,rfl⟩
  ·rw[if_neg h]at b
   obtain rfl:r=some (u,l++[n]):=by rw[<- b];simp[row,rows]
   refine aj τok<|vy ?_ e;refine vi ?_;refine vn ?_ h;refine aV ?_;exact .inr ⟨_,λk=>sw 10 35 k,rfl,rfl,⟨congrArg (λl=>some (SE.rw _ _ l)) oN,rfl,rfl,trivial⟩,rfl⟩
 ·rw[if_neg e]at b
  obtain rfl:r=some (u,l++[n]):=b.symm;refine aj τok<|vn ?_ e;refine aV ?_;exact .inr ⟨_,λk=>sw 10 35 k,rfl,rfl,⟨congrArg (λl=>some (SE.rw _ _ l)) oN,rfl,rfl,trivial⟩,rfl⟩
theorem Ib{by_ fr:Int}:∀(u:Unit) l n d b h,gU (fB by_ fr) (u,l) n d=some (b,h) ->h.length+zW b<=l.length+zW u+1:=λu l n d b h e=>wI (KJ 1) (λd n y e=>by rw[BP e];exact KJ _) u l n d b h e
def bR(l:List Nd)(er:Int):Option Tr ->AV×List (Nat×SE)
 |some y=>(.tp [.row 10,.p (pI 0)],[(10,lC (l++row y))])
 |none=>(.c (.p (.tup [.sl [],pI er])),[])
theorem CF(b:Bool){x:Tr}(i:Ok .tm x)(d:(row x).length<=20000)(l:List Nd)(hb:b=false ->l=[])(hl:l.length<=90000000){by_ fr:Int}(j:0<=fr/\fr<=4194304)(e:0<=by_/\by_<=4611686018427387904):VG prog 136 [oA b,.c (.p (ah (row x))),.c (.p (pI by_)),.c (.p (pI fr))] (oM l [] b) (.ok (bR l 6 (ka x by_ fr))):=by
 have h:=xu _ _ ⟨_,_,0,0,0,0,_,_,λ_=>.unk,λ_=>.unk,.inl rfl⟩ zW (gU (fB by_ fr)) 100000000 6 1 (KJ _) (KJ _) (Ia j e (KJ _)) Ib b x i d () l hb (by unfold zW;omega);rw[EV' x .tm 0 0 () l i.1,show gT (fB by_ fr) x 0 0=ka x by_ fr from rfl]at h
 generalize ka x by_ fr=r at h ⊢
 rcases r with _|y
 all_goals
  cases b
  all_goals
   refine cI 16 [.tmp 8,.tmp 9] τok func136 ?_;refine aj τok<|bv (λk=>sw 100 7 (sw 101 6 k)) (λ_=>0) h ?_
   first
    |exact .inl ⟨_,_,_,id,rfl,rfl,rfl,rfl,trivial,rfl⟩
    |exact .inr ⟨_,id,rfl,rfl,⟨rfl,trivial⟩,rfl⟩
theorem Ic{x:Tr}(d:Ok .tm x)(e:dL x)(b:(row x).length<=4096){by_ fr:Int}(hb:0<=by_/\by_<=500000)(j:0<=fr/\fr<=1048577):VC prog 84 [ah (row x),pI by_,pI fr] (.tup [ah (row (aH x by_ fr)),pI 0]):=by
 have h:=CF false d Oo [] (λ_=>rfl) Od (by_:=by_) (fr:=fr) Oo Oo;rw[mr d e hb.2]at h;have i:=jQ (row x) Oo;rw[je d b]at i;refine vf 27 [.tmp 6,.tmp 7] τok func84 ?_;refine af i ?_;refine vn ?_ OO;refine vn ?_;refine vn ?_;refine bv id (λ_=>0) (show VG _ _ [_,_,.c (.p (pI by_)),.c (.p (pI (min fr 1048577)))] _ _ by rw[show min fr 1048577=fr by omega];exact h) ?_;exact eA9
section
variable{S:Type}
def CG(c:S ->List (Nat×List AC))(ks:List Nat):Prop:=∃(T0 T1 T2:Nat) (p0 p1 p2:S ->PV),
 (c=λu=>[(T0,[.p (p0 u)])])/\ks=[102] \/(c=λu=>[(T0,[.p (p0 u)]),(T1,[.p (p1 u)]),(T2,[.p (p2 u)])])/\ks=[102,103,104] \/(c=λu=>[(T0,[.p (p0 u)]),(T1,[.p (p1 u)])])/\ks=[102,103]
def qy(c:S ->List (Nat×List AC))(g:FuncId)(ks:List Nat)(wt:S ->Nat)(met:S ->Int ->Int ->S×Bool)(M:Nat):Prop:=
 ∀(s:S) (a:Int) (d:Nat),0<=a ->a<=1048576 ->d<=100000 ->wt s<=M ->VG prog g (.c (.p (pI a)):: .c (.p (pI d))::jb ks) (exL (c s) 102 1) (.ok (.c (.p (.bool (met s a d).2)),exL (c (met s a d).1) 102 1))
def eC(c:S ->List (Nat×List AC))(g:FuncId)(ks:List Nat)(p:Bool×S):List (Nat×List AC):=(4,[.p (.bool p.1)])::(190,[.fn g ks])::c p.2
variable{c:S ->List (Nat×List AC)}{g:FuncId}{ks:List Nat}{wt:S ->Nat}{met:S ->Int ->Int ->S×Bool}{M:Nat}
theorem Ie(i:CG c ks)(b:qy c g ks wt met M)(v:M<=1000000):One (eC c g ks) 186 (λp=>wt p.2) (mq met) M 6:=by
 rintro⟨j,s⟩ l n d o q r;have e:=db o;simp only[mq];obtain⟨w,z,C,D,E,F,⟨rfl,rfl⟩|⟨rfl,rfl⟩|⟨rfl,rfl⟩⟩:=i
 all_goals
  refine cI 23 [.tmp 8] τok func186 ?_;cases j
  ·by_cases h:n.op=1
   ·rw[if_pos h]
    refine aj τok<|vy ?_ h;refine bv id (λk=>k-99) (b s n.a d e.2.2.1 e.2.2.2 q (by simp only at r;omega)) ?_;exact .inr ⟨_,λk=>sw 10 0 k,rfl,rfl,by repeat first|exact True.intro|refine And.intro rfl ?_,rfl⟩
   ·rw[if_neg h]
    refine aj τok<|vn ?_ h;exact .inr ⟨_,λk=>sw 10 0 k,rfl,rfl,by repeat first|exact True.intro|refine And.intro rfl ?_,rfl⟩
  ·rw[show (if n.op=1 then mp met (true,s) n.a d else (true,s))=(true,s) by simp[mp]]
   exact aj τok<|.inr ⟨_,λk=>sw 10 0 k,rfl,rfl,by repeat first|exact True.intro|refine And.intro rfl ?_,rfl⟩
theorem xv(b:CG c ks)(h:qy c g ks wt met 1000000)(q:∀s a d,wt (met s a d).1<=wt s+1){x:Tr}(D:Ok .tm x)(i:(row x).length<=20000)(s:S)(I:wt s<=900000):VG prog 149 [.c (.p (ah (row x))),.c (.fn g ks)] (exL (c s) 102 1) (.ok (.c (.p (.bool (fJ met (false,s) (varsT x 0 0)).1)),exL (c (fJ met (false,s) (varsT x 0 0)).2) 102 1)):=by
 have r:xp (eC c g ks):=by
  obtain⟨j,v,E,o,w,F,⟨rfl,rfl⟩|⟨rfl,rfl⟩|⟨rfl,rfl⟩⟩:=b
  ·exact⟨_,_,j,0,0,g,λp=>.bool p.1,λp=>o p.2,λ_=>.unk,λ_=>.unk,.inr (.inl rfl)⟩
  ·exact⟨_,_,j,v,E,g,λp=>.bool p.1,λp=>o p.2,λp=>w p.2,λp=>F p.2,.inr (.inr (.inl rfl))⟩
  ·exact⟨_,_,j,v,0,g,λp=>.bool p.1,λp=>o p.2,λp=>w p.2,λ_=>.unk,.inr (.inr (.inr rfl))⟩
 have z:=xu (eC c g ks) 186 r (λp=>wt p.2) (mq met) 1000000 6 1 (KJ _) OO (Ie b h (KJ _)) (λu l n d K H e=>by
  simp only[mq,Option.some.injEq,Prod.mk.injEq]at e;rw[<- e.1,<- e.2];split
  ·unfold mp
   split
   ·omega
   ·have:=q u.2 n.a d
    simp only;omega
  ·omega) false x D i (false,s) [] (λ_=>rfl) (by simp only[JU];omega)
 obtain⟨H,C⟩:=wT_e met x .tm 0 0 (false,s) [] D.1;rw[C]at z
 generalize fJ met (false,s) (varsT x 0 0)=p at z ⊢
 obtain⟨j,v,E,o,w,F,⟨rfl,rfl⟩|⟨rfl,rfl⟩|⟨rfl,rfl⟩⟩:=b
 all_goals
  refine cI 10 [.tmp 4] τok func149 ?_;refine aj τok<|bv (λk=>sw 100 5 (sw 101 3 k)) (λk=>k-101) z ?_;exact .inl ⟨_,_,_,id,rfl,rfl,rfl,rfl,by repeat first|exact True.intro|refine And.intro rfl ?_,rfl⟩
end
theorem If(n:Int):qy (λ_:Unit=>[(3,[.p (pI n)])]) 169 [102] zW (λ_ a d=>((),decide (max n 0<=a-d))) 1000000:=by
 intro s a d e b i _;refine cI 12 [.tmp 5] τok func169 ?_;refine aj τok<|vi ?_;refine ae (λh=>?_) (λh=>?_)
 ·exact .inl ⟨_,_,_,id,rfl,rfl,rfl,congrArg PV.bool (decide_eq_true h).symm,⟨rfl,trivial⟩,rfl⟩
 ·exact .inl ⟨_,_,_,id,rfl,rfl,rfl,congrArg PV.bool (decide_eq_false h).symm,⟨rfl,trivial⟩,rfl⟩
theorem Ig{x:Tr}(e:Ok .tm x)(b:(row x).length<=4096)(n:Int):VC prog 134 [ah (row x),pI n] (.bool (jI x n)):=by
 have h:=jQ (row x) Oo;rw[je e b]at h;have i:=xv ⟨_,0,0,λ_=>pI n,λ_=>.unk,λ_=>.unk,.inl ⟨rfl,rfl⟩⟩ (If n) (λ_ _ _=>KV _) e Oo () (KV _);rw[sL λa d=>decide (max n 0<=a-d),Bool.false_or]at i;refine vf 14 [.tmp 4] τok func134 ?_;refine af h ?_;refine vy ?_ rfl;refine bv (λk=>sw 102 3 k) (λ_=>0) i<|⟨_,_,rfl,rfl,?_⟩;show PV.bool _=_;unfold jI;rw[List.any_eq_not_all_not,Bool.not_not]
 congr 2
 funext q
 rw[<- decide_not];exact decide_eq_decide.2 Oo
def wS(s:Int×Int):Nat:=if s.1<0 then 2000000 else s.1.toNat
abbrev oO(v:Int)(s:Int×Int)(a d:Int):(Int×Int)×Bool:=(if a-d=v then (s.1+1,max s.2 d)else s,false)
abbrev Ih(v:Int)(s:Int×Int):List (Nat×List AC):=[(3,[.p (pI v)]),(3,[.p (pI s.1)]),(3,[.p (pI s.2)])]
theorem Ii(v:Int):qy (Ih v) 150 [102,103,104] wS (oO v) 1000000:=by
 intro s a d i e j b;have k:0<=s.1/\s.1<=1000000:=by
  unfold wS at b;split at b<;>omega
 refine cI 18 [.tmp 7] τok func150 ?_
 by_cases h:a-d=v
 ·rw[show oO v s a d=((s.1+1,max s.2 d),false) by simp[oO,h]]
  refine aj τok<|vi ?_;refine vy ?_ h;refine vi ?_;exact .inl ⟨_,_,_,id,rfl,rfl,rfl,rfl,⟨rfl,rfl,rfl,trivial⟩,rfl⟩
 ·rw[show oO v s a d=(s,false) by simp[oO,h]]
  refine aj τok<|vi ?_;refine vn ?_ h;exact .inl ⟨_,_,_,id,rfl,rfl,rfl,rfl,⟨rfl,rfl,rfl,trivial⟩,rfl⟩
theorem Ij{v b:Int}(k:0<=v/\v<=300000)(i:0<=b/\b<=100000):qy (λ_:Unit=>[(3,[.p (pI v)]),(3,[.p (pI b)])]) 151 [102,103] zW (λ_ a d=>((),decide (d<=a) && decide (1048576<a-d+v+b))) 1000000:=by
 intro s a d l j o _;refine cI 20 [.tmp 6] τok func151 ?_;refine aj τok<|ae (λh=>?_) (λh=>?_)
 ·have h:(d:Int)<=a:=h
  refine vi ?_;refine vi ?_;refine vi ?_;refine ae (λe=>?_) (λe=>?_)
  ·exact .inl ⟨_,_,_,id,rfl,rfl,rfl,congrArg PV.bool (show true=(decide ((d:Int)<=a) && decide (_<_)) by rw[decide_eq_true h,decide_eq_true e];rfl),⟨rfl,rfl,trivial⟩,rfl⟩
  ·exact .inl ⟨_,_,_,id,rfl,rfl,rfl,congrArg PV.bool (show false=(decide ((d:Int)<=a) && decide (_<_)) by rw[decide_eq_false e,Bool.and_false]),⟨rfl,rfl,trivial⟩,rfl⟩
 ·have h:¬ (d:Int)<=a:=h
  exact .inl ⟨_,_,_,id,rfl,rfl,rfl,congrArg PV.bool (show false=(decide ((d:Int)<=a) && _) by rw[decide_eq_false h];rfl),⟨rfl,rfl,trivial⟩,rfl⟩
theorem Ik{u:Tr}(q:Ok .tm u)(j:dL u)(w:(row u).length<=4096){v:Int}(F:0<=v/\v<=300000):One (λ_:Unit=>[(3,[.p (pI v)]),(29,[.p (ah (row u))])]) 153 zW (gU (eo u v)) 90000000 6:=by
 intro s l n d C H D;have E:=db C;generalize b:gU (eo u v) (s,l) n d=r;unfold gU at b;refine cI 51 [.tmp 8] τok func153 ?_
 by_cases e:n.op=1
 ·rw[if_pos e]at b
  unfold eo at b
  by_cases i:n.a=v+(d:Int)
  ·rw[if_pos i]at b
   have z:=CF true q Oo l (λh=>by cases h) (by unfold zW at D;omega) (by_:=v+d) (fr:=0) Oo Oo;rw[mr q j Oo]at z;obtain rfl:r=some (s,l++row (aH u (v+d) 0)):=by
    rw[<- b];simp only[jJ];rw[if_pos Oo]
   refine aj τok<|vy ?_ e;refine vi ?_;refine vy ?_ i;refine vi ?_;refine bv id (λ_=>0) z ?_;exact .inr ⟨_,id,rfl,rfl,⟨rfl,rfl,rfl,trivial⟩,rfl⟩
  ·rw[if_neg i]at b
   by_cases o:n.a>v+(d:Int)
   ·rw[if_pos ⟨o,Oo⟩]at b
    obtain rfl:r=some (s,l++[{n with a:=n.a-1}]):=by rw[<- b];simp[row,rows]
    refine aj τok<|vy ?_ e;refine vi ?_;refine vn ?_ i;refine vy ?_ e;refine vi ?_;refine vy ?_ o;refine vi ?_;refine aV ?_;exact .inr ⟨_,λk=>sw 10 50 k,rfl,rfl,⟨congrArg (λl=>some (SE.rw _ _ l)) (oN (m:={n with a:=n.a-1})),rfl,rfl,trivial⟩,rfl⟩
   ·rw[if_neg Oo]at b
    obtain rfl:r=some (s,l++[n]):=by rw[<- b];simp[row,rows]
    refine aj τok<|vy ?_ e;refine vi ?_;refine vn ?_ i;refine vy ?_ e;refine vi ?_;refine vn ?_ o;refine aV ?_;exact .inr ⟨_,λk=>sw 10 50 k,rfl,rfl,⟨congrArg (λl=>some (SE.rw _ _ l)) oN,rfl,rfl,trivial⟩,rfl⟩
 ·rw[if_neg e]at b
  obtain rfl:r=some (s,l++[n]):=b.symm;refine aj τok<|vn ?_ e;refine vn ?_ e;refine aV ?_;exact .inr ⟨_,λk=>sw 10 50 k,rfl,rfl,⟨congrArg (λl=>some (SE.rw _ _ l)) oN,rfl,rfl,trivial⟩,rfl⟩
theorem Il{x u:Tr}(w:Ok .tm x)(C:Ok .tm u)(i:dL u)(L:(row x).length<=4096)(j:(row u).length<=4096){v:Int}(O:0<=v/\v<=300000):VC prog 96 [ah (row x),ah (row u),pI v] (if gc x u v=true then .tup [.sl [],pI 9]else .tup [ah (row (eu x u v)),pI 0]):=by
 have D:=jQ (row x) Oo;rw[je w L]at D;have E:=jQ (row u) Oo;rw[je C j]at E;have W:=ak ndP (row x);have R:=ak ndP (row u);have o:=xv ⟨_,_,_,λ_=>pI v,λs=>pI s.1,λs=>pI s.2,.inr (.inl ⟨rfl,rfl⟩)⟩ (Ii v) (λs a d=>by
  unfold oO wS;simp only;split
  ·simp only
   split<;>split<;>omega
  ·omega) w Oo (0,0) OO
 rw[BQ v]at o;have T:=wJ v (varsT x 0 0) (0,0) (4*(row x).length) OO OO OS λq K=>by
  have:=fh' x .tm 0 0 w.1 OO OO OO q K;omega
 have X:=gJ' x 0 0;obtain⟨b,r⟩:∃b,nJ x v=b:=⟨_,rfl⟩
 unfold nJ at r;rw[r]at o T;obtain⟨t1,Y,Z,t4⟩:=T;simp only at Y;have F:=xv ⟨_,_,0,λ_=>pI v,λ_=>pI b.2,λ_=>.unk,.inr (.inr ⟨rfl,rfl⟩)⟩ (Ij O ⟨Z,Oo⟩) (λ_ _ _=>KV _) C Oo () (KV _);rw[sL λa d=>decide (d<=a) && decide (1048576<a-d+v+b.2),Bool.false_or,List.any_eq_false.2 λq K=>by
  have h1:=i q K;have h2:=fh' u .tm 0 0 C.1 OO OO OO q K;simp;omega]at F
 refine cA 50 [.tmp 6,.tmp 7] τok func96 ?_;refine aC τok<|aC τok<|af D ?_;refine vn ?_ OO;refine aC τok<|af E ?_;refine vn ?_ OO;refine aC τok<|vn ?_;refine aC τok<|aC τok<|aC τok ?_;have hm:min v 1048577=v:=Oo
 refine bv (λk=>sw 102 5 (sw 103 10 (sw 104 11 k))) (λ_=>0) o ?_ (he:=by rw[hm];repeat first|exact True.intro|refine And.intro rfl ?_);refine dB τok (σ:=Unit) [(0,_),(4,_),(5,_),(10,_)] [(4,_),(5,.st 0 3 [.p (pI v)]),(10,.st 0 3 [.p (pI b.1)])] (λ_=>[]) (λ_=>[]) (λ_=>True) ?_ ?_
 ·refine ae (λg=>?_) (λg=>?_)
  ·refine bv (λk=>sw 102 5 (sw 103 11 k)) (λ_=>0) F ?_
   exact au () trivial
  ·exact au () trivial
 rintro _ _;have hp:=aS u;obtain⟨z,V⟩:∃z:Nat,z=b.1.toNat*((row u).length-1):=⟨_,rfl⟩
 have a0:z<=4096*4096:=by
  rw[V];exact Nat.mul_le_mul Oo Oo
 have h:b.1*((((row u).map ndP).length:Int)-1)=z:=by
  rw[R,V,Int.natCast_mul]
  congr 1<;>omega
 have H:gc x u v=decide (4096<(((row x).map ndP).length:Int)+b.1*((((row u).map ndP).length:Int)-1)):=by
  unfold gc nJ;rw[r,R,W]
 rw[H];refine aj τok<|vi ?_;refine vi ?_ (by show _<=b.1*((((row u).map ndP).length:Int)-1);rw[h];omega) (by show b.1*((((row u).map ndP).length:Int)-1)<=_;rw[h];omega);refine vi ?_ (by show _<=(((row x).map ndP).length:Int)+b.1*((((row u).map ndP).length:Int)-1);rw[h];omega) (by show (((row x).map ndP).length:Int)+b.1*((((row u).map ndP).length:Int)-1)<=_;rw[h];omega);refine ae (λg=>?_) (λg=>?_)
 ·exact⟨_,_,rfl,rfl,(if_pos (decide_eq_true g)).symm⟩
 have I:=xu (λ_:Unit=>[(3,[.p (pI v)]),(29,[.p (ah (row u))])]) 153 ⟨_,_,0,0,0,0,λ_=>pI v,λ_=>ah (row u),λ_=>.unk,λ_=>.unk,.inl rfl⟩ zW (gU (eo u v)) 90000000 6 4096 OO OO (Ik C i j O) (λs l n d s' l' e=>wI OO (λd n y e=>KQ (Hr C i e) j) s l n d s' l' e) false x w Oo () [] (λ_=>rfl) (by simp[zW];omega);rw[EV' x .tm 0 0 () [] w.1,oE w v]at I;exact bv (λk=>sw 100 5 (sw 101 4 (sw 10 12 k))) (λ_=>0) I<|⟨_,_,rfl,rfl,(if_neg (by simpa using g)).symm⟩
end Go.Proofs.YtjnjbghlemiklaaGreat
namespace Go.Wx
theorem qz{P:Program}{τ:Tau}(d:aL P τ){T e sz bs:Nat}(j:look τ.slcs T=some (e,sz,bs)){x y:Operand}{l:List (List PV)}(q:0<l.length){k:PV ->Prop}(r:k (.bool false)):mc P .eql T x y (.c (.p (.sl l))) (.c (.p (.raw (.slice none 0 0)))) k:=⟨⟨.bool false,λC ρ va s w h i=>by
 have h:RV C (.sl l) va:=h;have i:RV C (.raw (.slice none 0 0)) s:=i;cases i;obtain⟨v,_⟩:=d.slcs T e sz bs j;cases h with
 |nil a c=>simp at q
 |sl l sz b o c f=>
  refine⟨.bool false,.bool _,?_⟩;rw[eqGuard_at_slice];simp only[Sem.run_bind,Sem.run_pure,Result.andThen_ok];exact Lib.run_eql_slice_nil w T e _ _ c 0 0 v,r⟩⟩
theorem VO.vc{P:Program}{f:FuncId}{r:List PV}{e sz:Nat}{l:List (List PV)}(h:VO P f r e sz l):VC P f r (.sl l):=⟨h.1,λw X C ρ z D E=>(h.2 w X C ρ z D E).mono λe O ⟨v,R,d,F,i⟩=>by
 obtain⟨s,H,k⟩:=i.slot 0 _ rfl (ma rfl);have k:s=d 0:=k;obtain rfl:v=s:=JB H;obtain⟨I,o,_,j⟩:=i.frz [0] λ_ _=>rfl;obtain⟨K,q,L⟩:=Rep.le ⟨I,d,o.reslot (b:=.c (.p (.sl l))) (v:=v) λ_=>k▸j 0 Od l (.inl ⟨_,_,rfl⟩)⟩ (gR (f:=id) (B:=⟨[(0,.c (.p (.sl l)))],[]⟩) ⟨rfl,True.intro⟩ True.intro rfl);exact⟨v,K,q,F,L⟩⟩
end Go.Wx
namespace Go.Proofs.YtjnjbghlemiklaaGreat
open Go.Wx Cd Tm Lv
def iP(x:Int):List PV:=[.int .i64 x]
def rP(t:List Nd):List PV:=[ah t]
theorem iW(l:List (List Nd)):∀x∈l,(rP x).length=1/\∀q∈rP x,q.one=true:=λx _=>⟨rfl,λq b=>by
 obtain rfl:q=ah x:=by simpa[rP]using b
 rfl⟩
theorem dG{α:Type}{p:α ->List PV}{l:List α}{i:Nat}{k:List PV ->Prop}{x:α}(b:l[i]?=some x)(d:k (p x)):oq (l.map p) i k:=uD (p x) (by rw[JX,b];rfl) d
theorem sU{t a q:List Nd}{y:Tr}(hl:t.length<=1000000000)(e:t=a++(row y++q))(b:Ok .tm y):VC prog 168 [ah t,pI (a.length:Int)] (pI ((a.length+(row y).length:Nat):Int)):=by
 have d:a.length<=t.length:=by rw[e];simp
 have h:=CE t hl t.length a.length Oo Oo λ_=>Oo
 rwa [qt,e,Hj b a q,<- e]at h
theorem oP{l:List Nd}(b:0<l.length)(hl:l.length<=1000000):VO prog 46 [ah l] 42 3 (l.map ndP):=by
 refine lu 8 [.tmp 2] τok func46 ?_;refine aj τok<|qz (l:=l.map ndP) τok (by rfl) (by rw[List.length_map];exact b)<|va ?_ (fN l);exact⟨7,rfl,rfl⟩
def pM(r s:Nat)(t:List Nd)(p:Nat)(ys:List (List Nd))(bs:List Int):List (Nat×SE):=[(r,.rw 29 1 (ys.map rP)),(s,.rw 3 1 (bs.map iP)),(1,.st 1 29 [.p (ah t)]),(2,.st 2 3 [.p (pI p)]),(3,.st 3 64 [.row r]),(4,.st 4 156 [.row s])]
theorem xw{t:List Nd}{y:Tr}{d:List Nd}{p:Nat}{ys:List (List Nd)}{bs:List Int}{b:Int}(hl:t.length<=1000000)(e:t.drop p=row y++d)(r:Ok .tm y)(h1:ys.length<=1000000)(h2:bs.length<=1000000):VG prog 173 [.c (.p (pI b)),.c (.ptr 1 0),.c (.ptr 2 0),.c (.ptr 3 0),.c (.ptr 4 0)] (pM 0 5 t p ys bs) (.ok (.c (.p (.tup [])),pM 10 15 t (p+(row y).length) (ys++[row y]) (bs++[b]))):=by
 have v:=aS y;have i:p<=t.length:=by
  rcases Nat.lt_or_ge t.length p with h|h
  ·have:=congrArg List.length e
   rw[JY Oo]at this;simp at this;omega
  ·exact h
 have o:=sU (t:=t) (a:=t.take p) (q:=d) (y:=y) Oo (by rw[<- e,List.take_append_drop]) r;rw[List.length_take,Nat.min_eq_left i]at o;have j:=congrArg List.length e;rw[List.length_drop,JK]at j;have w:=ak ndP t;refine cI 22 [] τok func173 ?_;refine aj τok<|af o ?_;refine bC p (p+(row y).length) ?_ (λx s=>by obtain⟨y,_,rfl⟩:=List.mem_map.1 s;rfl) rfl;rw[<- List.map_take,<- List.map_drop,List.drop_take,e,Nat.add_sub_cancel_left,List.take_left];refine aV ?_ (hb:=OK);refine vk ?_;refine aV ?_ (hb:=OK);exact .inl ⟨_,_,_,λk=>sw 10 16 (sw 15 20 k),rfl,rfl,rfl,rfl,⟨congrArg (λl=>some (SE.rw _ _ l)) (by rw[List.map_append];rfl),congrArg (λl=>some (SE.rw _ _ l)) (by rw[List.map_append];rfl),rfl,rfl,rfl,rfl,trivial⟩,rfl⟩
def bsK:List Tr ->Nd ->Int ->List Int
 |[],_,_=>[]
 |_::r,n,i=>(if n.op=12 then [0,n.b]else [aY n i])++bsK r n (i+1)
def xx(x:Tr):List Int:=bsK (if x.n.op=2 then []else x.ks) x.n 0
def hP(a b c d:Nat):Nat ->Nat
 |0=>a
 |5=>b
 |2=>7
 |3=>5
 |4=>6
 |10=>c
 |15=>d
 |k=>k
theorem In{x:Tr}(hx:Ok .tm x)(T:(row x).length<=4096):VG prog 141 [.c (.p (ah (row x)))] [] (.ok (.tp [.row 10,.row 15],[(10,.rw 29 1 (((kidsT x).map row).map rP)),(15,.rw 3 1 ((xx x).map iP))])):=by
 obtain⟨n,ks⟩:=x;obtain⟨hp,h3,b2⟩:=hx.tm;obtain⟨hc,C,j⟩:=hx.kids;have V:=db hp;obtain⟨t,ht⟩:∃t,row (.mk n ks)=t:=⟨_,rfl⟩
 rw[ht]at T ⊢;have W:t=n::rows ks:=by rw[<- ht,row]
 have hn:t[0]?=some n:=by rw[W];rfl
 obtain⟨o,e⟩:∃o,o=(if n.op=2 then []else ks):=⟨_,rfl⟩
 obtain⟨F,hF⟩:∃F:List Tr ->List Tr,F=λl=>if n.op=12 then l.flatMap (·.ks)else l:=⟨_,rfl⟩
 obtain⟨KT,X⟩:∃KT,kidsT (.mk n ks)=KT:=⟨_,rfl⟩
 obtain⟨BT,Y⟩:∃BT,xx (.mk n ks)=BT:=⟨_,rfl⟩
 rw[X,Y];have Z:F o=KT:=by
  rw[<- X,hF,e];simp only[kidsT]
  by_cases D:n.op=2
  ·simp[D]
  ·simp[D]
 have a0:bsK o n 0=BT:=by rw[<- Y,xx,e];rfl
 have a1:∃v,t.drop 1=rows o++v:=by
  rw[W,e];split
  ·exact⟨_,rfl⟩
  ·exact⟨[],Od⟩
 obtain⟨v,a5⟩:=a1;have w:bp n=(o.length:Int)/\okL cnt nx o n .tm 0/\eN' o=true:=by
  obtain⟨_,_,_,a6⟩:=eb hc;have b3:=mn hp
  by_cases D:n.op=2
  ·rw[if_pos D]at e
   subst e;exact⟨by simp[bp,D],trivial,rfl⟩
  ·rw[if_neg D]at e a6
   subst e;exact⟨Oo,C,j⟩
 have b1:=(mn hp).2;have a2:n.op=2 ->o=[]:=λh=>by rw[e,if_pos h]
 refine cI 38 [.tmp 2,.tmp 3] τok func141 ?_;refine aC τok<|aC τok<|vm (p:=ndP) 0 hn ?_;refine aC τok<|aC τok<|jE 5 0 100 29 1 rfl rfl rfl OO<|jE 6 0 105 3 1 rfl rfl rfl OO<|aj τok<|af (xn n ⟨V.1,V.2.1⟩) ?_;rw[w.1];refine az τok (σ:=Nat×Nat×List Tr×List Int×List Tr) [(4,_),(5,_),(6,_),(7,_),(8,_),(15,_)] [(1,_),(4,_)] (λq=>[(16,vI q.1)]) (λq=>[(7,.st 0 3 [.p (pI q.2.1)]),(100,.rw 29 1 ((q.2.2.1.map row).map rP)),(105,.rw 3 1 (q.2.2.2.1.map iP)),(5,.st 0 64 [.row 100]),(6,.st 0 156 [.row 105])]) (λq=>q.1+q.2.2.2.2.length=o.length/\q.2.2.1++F q.2.2.2.2=KT/\q.2.2.2.1++bsK q.2.2.2.2 n q.1=BT/\t.drop q.2.1=rows q.2.2.2.2++v/\okL cnt nx q.2.2.2.2 n .tm 0/\eN' q.2.2.2.2=true/\q.2.2.1.length<=2*q.1/\q.2.2.2.1.length<=2*q.1) (λq=>o.length-q.1) (0,1,[],[],o) ⟨Od,Z,a0,a5,w.2.1,w.2.2,KJ _,KJ _⟩ ?_;rintro⟨i,p,ys,bs,E⟩ ⟨O,hy,H,K,C,j,a7,a8⟩;simp only at O hy H K C j a7 a8;refine aj τok<|ae (λg=>?_) (λg=>?_);rotate_left
 ·have g:¬ (i:Int)<o.length:=g
  obtain rfl:E=[]:=List.length_eq_zero_iff.1 Oo;rw[show F []=[] by rw[hF];simp,JD]at hy;rw[bsK,JD]at H;subst hy H;refine vk ?_;exact .inr ⟨_,λk=>sw 10 100 (sw 15 105 k),rfl,rfl,⟨rfl,rfl,trivial⟩,rfl⟩
 have g:(i:Int)<o.length:=g
 match E,O with
 |[],O=>simp at O;omega
 |y::r,O=>
 obtain⟨s,I,z⟩:=jH C j;simp only[rows,List.append_assoc]at K;simp only[JV]at O;simp only[bsK]at H;refine ae (λd=>?_) (λd=>?_)
 ·have d:n.op=12:=d
  have s:Ok .fn y:=by rwa [show nx Md.tm n 0= .fn by simp[nx,d]]at s
  obtain⟨f,L,R,rfl,b4,b5,a9,a'⟩:=s.fn;rw[show row (.mk f [L,R])=f::(row L++row R) by simp[row,rows]]at K;simp only[List.cons_append,List.append_assoc]at K;obtain⟨_,_,a3⟩:=BM K;have a4:t.drop (p+1+(row L).length)=row R++(rows r++v):=by rw[<- List.drop_drop,a3,List.drop_left]
  have b0:t.drop (p+1+(row L).length+(row R).length)=rows r++v:=by rw[<- List.drop_drop,a4,List.drop_left]
  rw[if_pos d]at H;refine vi ?_;refine bv (hP 100 105 110 115) (λ_=>0) (xw (ys:=ys.map row) (bs:=bs) (b:=0) Oo a3 a9 OK Oo) ?_;refine bv (hP 110 115 120 125) (λ_=>0) (xw (ys:=ys.map row++[row L]) (bs:=bs++[0]) (b:=n.b) Oo a4 a' OK OK) ?_;refine vi ?_;exact au (i+1,p+1+(row L).length+(row R).length,ys++[L,R],bs++[0,n.b],r) ⟨OS,by simp only;rw[<- hy,hF];simp[d,Tr.ks],by simp only;rw[<- H];simp,b0,I,z,OK,OK⟩ (f:=λk=>sw 100 120 (sw 105 125 k)) (y':=⟨rfl,congrArg (λl=>some (SE.rw _ _ l)) Od,congrArg (λl=>some (SE.rw _ _ l)) Od,rfl,rfl,trivial⟩)
 ·have d:¬ n.op=12:=d
  have D:¬ n.op=2:=λh=>by
   rw[a2 h]at g;simp at g;omega
  have s:Ok .tm y:=by rwa [show nx Md.tm n 0= .tm by simp[nx,D,d]]at s
  rw[if_neg d]at H;refine af (Cy n i) ?_;refine bv (hP 100 105 110 115) (λ_=>0) (xw (ys:=ys.map row) (bs:=bs) (b:=aY n i) Oo K s OK Oo) ?_;refine vi ?_;exact au (i+1,p+(row y).length,ys++[y],bs++[aY n i],r) ⟨OS,by simp only;rw[<- hy,hF];simp[d,Tr.ks],by simp only;rw[<- H];simp,by rw[<- List.drop_drop,K,List.drop_left],I,z,OK,OK⟩ (f:=λk=>sw 100 110 (sw 105 115 k)) (y':=⟨rfl,congrArg (λl=>some (SE.rw _ _ l)) Od,congrArg (λl=>some (SE.rw _ _ l)) Od,rfl,rfl,trivial⟩)
theorem Io{α:Type}{l:List α}{i:Nat}{x:α}(h:l[i]?=some x):l.set i x=l:=by
 refine List.ext_getElem? λj=>?_;rw[List.getElem?_set]
 by_cases e:i=j
 ·subst e
  rw[if_pos rfl,if_pos (aI h),h]
 ·rw[if_neg e]
theorem CH{x:Tr}(j:Ok .tm x)(b:(row x).length<=4096):VO prog 91 [ah (row x)] 29 1 (((kidsT x).map row).map rP):=by
 have s:=jQ (row x) Oo;rw[je j b]at s;have o:=gA j;obtain⟨L,q⟩:∃L,L=(kidsT x).map row:=⟨_,rfl⟩
 have h:=In j b;rw[<- q]at h ⊢;have C:=ak rP L;have v:L.length<=18:=by rw[q,List.length_map];exact o
 refine lu 29 [.tmp 2] τok func91 ?_;refine aj τok<|af s ?_;refine vn ?_ OO;refine bv (λk=>k+100) (λ_=>0) h ?_;refine az τok (σ:=Nat) [(3,_),(15,_)] [(110,_)] (λi=>[(16,vI i)]) (λ_=>[]) (λi=>i<=L.length) (λi=>L.length-i) 0 (KV _) ?_;intro i D;refine aj τok<|ae (λg=>?_) (λg=>?_);rotate_left
 ·exact⟨110,rfl,rfl⟩
 have g:(i:Int)<((L.map rP).length:Int):=g;obtain⟨y,e,_⟩:=ay (l:=L) (k:=i);refine vm (p:=rP) i e ?_;refine dG e ?_;have r:0<y.length/\y.length<=4096:=by
  have:=JQ e;rw[q]at this;obtain⟨z,w,rfl⟩:=List.mem_map.1 this;have:=aS z;have:=hP' x z w;omega
 refine af (oP r.1 Oo).vc ?_;refine vm (p:=rP) i e ?_;refine dG e<|vi ?_;exact au (i+1) (show i+1<=_ by omega) (d:=⟨⟨congrArg (λl=>some (SE.rw _ _ l)) (Io (by rw[JX,e];rfl)),rfl,rfl⟩,trivial⟩)
theorem CI{α:Type}{R:Rd α}{f:FuncId}{e n:Nat}(j:dz prog f)(h:∀w,dz prog f/\Calls prog f #[.slice none 0 0,.int .i64 (n:Int)] w (λs w'=>∃v,s= .returned v/\Own R e w.heap.size w' v []/\Kp [] w w')):VO prog f [.raw (.slice none 0 0),pI n] e R.sz []:=.of ⟨j,λw C O q D=>by
 obtain⟨v,z,rfl,E,F⟩:=xj D;cases E;cases F;refine(h w).2.mono λe w' ⟨v,H,r,k⟩=>?_;obtain⟨d,q1,I⟩:=r.row;refine⟨v,C,d,H,q1,λx l=>(by cases l),by cases d<;>first|rfl|exact I.elim,λi T x _ l=>by simp at l,⟨q.tr k,λ_ _ _ h=>h,λb o v h=>.inl ⟨o,v,h⟩,k⟩,λg K b o u L=>?_⟩;have:=r.block g (by rw[<- lZ q1];exact K);have:=(q b o u L).lt;omega⟩
theorem Ip(n:Nat)(b:0<n)(d:n<=1000000):VO prog 200 [.raw (.slice none 0 0),pI n] 42 3 []:=CI ⟨_,func200,rfl,OO⟩ (Hu n b d)
theorem sW{α:Type}{L:List (List α)}{k:Nat}{x:List α}(b:L[k]?=some x):((L.take (k+1)).flatten).length=((L.take k).flatten).length+x.length:=by
 rw[List.take_add_one,b];simp
theorem mE{α:Type}(L:List (List α))(k:Nat):((L.take k).flatten).length<=L.flatten.length:=by
 have:L.flatten=(L.take k).flatten++(L.drop k).flatten:=by rw[<- List.flatten_append,List.take_append_drop]
 rw[this,JK];omega
theorem CJ{L:List (List Nd)}(hl:L.length<=1000000)(e:0<L.flatten.length)(h1:L.flatten.length<=1000000):VO prog 172 [.sl (L.map rP)] 42 3 (L.flatten.map ndP):=by
 have q:=ak rP L;refine lu 36 [.tmp 2] τok func172 ?_;refine aj τok<|az τok (σ:=Nat) [(0,_),(9,_),(10,_)] [] (λi=>[(11,vI i),(3,vI ((L.take i).flatten.length:Nat))]) (λ_=>[]) (λi=>i<=L.length) (λi=>L.length-i) 0 (KV _) ?_;intro i h;have j:=mE L i;refine aj τok<|ae (λg=>?_) (λg=>?_)
 ·have g:(i:Int)<((L.map rP).length:Int):=g
  obtain⟨x,b,_⟩:=ay (l:=L) (k:=i);have o:=sW b;have d:=mE L (i+1);have r:=ak ndP x;refine vm (p:=rP) i b ?_;refine vi ?_;refine vn ?_;refine vi ?_;exact au (i+1) (show i+1<=_ by omega) (x:=⟨rfl,congrArg (λz=>some (vI z)) (by show ((L.take i).flatten.length:Int)+(x.map ndP).length=_;omega),trivial⟩)
 have g:¬ (i:Int)<((L.map rP).length:Int):=g;obtain rfl:i=L.length:=Oo
 rw[List.take_length];refine bv (λ_=>100) (λ_=>0) (Ip L.flatten.length e h1) ?_;refine az τok (σ:=Nat) [(25,_),(26,_)] [] (λi=>[(27,vI i),(6,.c (.row 100))]) (λi=>[(100,.rw 42 3 ((L.take i).flatten.map ndP))]) (λi=>i<=L.length) (λi=>L.length-i) 0 (KV _) ?_;intro i h;have j:=mE L i;refine aj τok<|ae (λg=>?_) (λg=>?_)
 ·have g:(i:Int)<((L.map rP).length:Int):=g
  obtain⟨x,b,_⟩:=ay (l:=L) (k:=i);have o:=sW b;have d:=mE L (i+1);refine vm (p:=rP) i b ?_;refine va ?_ (fN x) (hb:=by rw[List.length_map];omega);refine vi ?_;exact au (i+1) (show i+1<=_ by omega) (f:=λk=>sw 100 33 k) (y':=⟨congrArg (λl=>some (SE.rw _ _ l)) (by show _++_=((L.take (i+1)).flatten).map ndP;rw[List.take_add_one,b];simp),trivial⟩)
 have g:¬ (i:Int)<((L.map rP).length:Int):=g;obtain rfl:i=L.length:=Oo
 rw[List.take_length];exact⟨100,rfl,rfl⟩
theorem Iq{x:Tr}{ys:List Tr}(w:Ok .tm x)(d:(row x).length<=4096)(o:∀y∈ys,Ok .tm y/\(row y).length<=4096)(I:ys.length<=100000):VC prog 139 [ah (row x),bw (ys.map row)] (if 4096<(row (al' x ys)).length then .tup [.sl [],pI 9]else .tup [ah (row (al' x ys)),pI 0]):=by
 have v:=jQ (row x) Oo;rw[je w d]at v;have K:=ak ndP (row x);have O:=ak rP (ys.map row);have C:(row (al' x ys)).length=ys.length+((row x).length+(rows ys).length):=by rw[bJ'];simp
 have e:∀i,(rows (ys.take i)).length<=(rows ys).length:=λi=>by
  have:rows ys=rows (ys.take i)++rows (ys.drop i):=by rw[<- dc',List.take_append_drop]
  rw[this,JK];omega
 refine vf 57 [.tmp 4,.tmp 5] τok func139 ?_;refine af v ?_;refine vn ?_ OO;refine az τok (σ:=Nat) [(0,_),(1,_),(19,_),(20,_)] [] (λi=>[(21,vI i),(7,vI (min (((row x).length+i+(rows (ys.take i)).length:Nat):Int) 4097))]) (λ_=>[]) (λi=>i<=ys.length) (λi=>ys.length-i) 0 (KV _) ?_ (x1:=⟨rfl,congrArg (λz=>some (vI z)) (by show (((row x).map ndP).length:Int)=_;simp[rows];omega),trivial⟩);intro i D;have R:=e i;refine aj τok<|ae (λg=>?_) (λg=>?_)
 ·have g:(i:Int)<(((ys.map row).map rP).length:Int):=g
  have E:(ys.map row).length=ys.length:=List.length_map _;obtain⟨y,q,_⟩:=ay (l:=ys) (k:=i);obtain⟨r,s⟩:=o y (JQ q);have h:=jQ (row y) Oo;rw[je r s]at h;have T:(rows (ys.take (i+1))).length=(rows (ys.take i)).length+(row y).length:=by rw[List.take_add_one,q,dc'];simp[rows]
  have F:=ak ndP (row y);refine vm (p:=rP) i (by rw[JX,q];rfl) ?_;refine af h ?_;refine vn ?_ OO;refine vi ?_;refine vi ?_;refine vi ?_;exact au (i+1) (show i+1<=_ by omega) (x:=⟨rfl,congrArg (λz=>some (vI z)) (by show min (min (((row x).length+i+(rows (ys.take i)).length:Nat):Int) 4097+1+(((row y).map ndP).length:Int)) 4097=min (((row x).length+(i+1)+(rows (ys.take (i+1))).length:Nat):Int) 4097;omega),trivial⟩)
 have g:¬ (i:Int)<(((ys.map row).map rP).length:Int):=g;have E:(ys.map row).length=ys.length:=List.length_map _;obtain rfl:i=ys.length:=Oo
 rw[List.take_length]at *
 refine ae (λj=>?_) (λj=>?_)
 ·have j:min (((row x).length+ys.length+(rows ys).length:Nat):Int) 4097>4096:=j
  exact⟨_,_,rfl,rfl,by rw[if_pos Oo];rfl⟩
 have j:¬ min (((row x).length+ys.length+(rows ys).length:Nat):Int) 4097>4096:=j;rw[if_neg Oo,bJ'];obtain⟨N,H⟩:∃N:Nat,min (((row x).length+ys.length+(rows ys).length:Nat):Int) 4097=N:=⟨(row x).length+ys.length+(rows ys).length,Oo⟩
 refine Ai 0 N ?_ rfl H;refine az τok (σ:=Nat) [(0,_),(1,_),(41,_),(42,_)] [] (λi=>[(43,vI i),(11,.c (.row 100))]) (λi=>[(100,.rw 42 3 ((List.replicate i appN).map ndP))]) (λi=>i<=ys.length) (λi=>ys.length-i) 0 (KV _) ?_ (f:=λk=>sw 100 40 k);intro i D;refine aj τok<|ae (λg=>?_) (λg=>?_)
 ·have g:(i:Int)<(((ys.map row).map rP).length:Int):=g
  refine aV ?_ (hb:=OK);refine vi ?_;exact au (i+1) (show i+1<=_ by omega) (f:=λk=>sw 100 48 k) (y':=⟨congrArg (λl=>some (SE.rw _ _ l)) (by rw[List.replicate_succ',List.map_append];rfl),trivial⟩)
 have g:¬ (i:Int)<(((ys.map row).map rP).length:Int):=g;obtain rfl:i=ys.length:=Oo
 have b:(row x::ys.map row).flatten=row x++rows ys:=by rw[List.flatten_cons,fi']
 have V:=aS x;refine va (p:=rP) ?_ (iW _);refine af (CJ (L:=row x::ys.map row) OK (by rw[b,JK];omega) (by rw[b,JK];omega)).vc ?_;rw[b];refine va ?_ (fN _) (hb:=OK);exact⟨_,_,rfl,rfl,congrArg (λl=>PV.tup [.sl l,pI 0]) Od⟩
theorem Ir{op:Int}(T:op=4 \/op=5){x:Tr}{ys:List Tr}(V:Ok .tm x)(o:(row x).length<=4096)(v:∀y∈ys,Ok .tm y/\(row y).length<=4096)(Y:ys.length<=100000):VC prog 94 [pI op,bw (ys.map row),ah (row x)] (if 4096<(row (dS op ys x)).length then .tup [.sl [],pI 9]else .tup [ah (row (dS op ys x)),pI 0]):=by
 have I:=jQ (row x) Oo;rw[je V o]at I;have Z:=ak ndP (row x);have eY:=ak rP (ys.map row);have eM:(ys.map row).length=ys.length:=List.length_map _;rw[sN];obtain⟨R,r⟩:∃R,R=dF op:=⟨_,rfl⟩
 have w:R []=[]:=by rw[r];rfl
 obtain⟨m,K⟩:∃m:Nd,m=⟨op,0,0⟩:=⟨_,rfl⟩
 have z:∀l d,R (l++[d])=R l++(m::row d):=λl d=>by rw[r,K];exact Hw op l d
 have C:∀i,(R (ys.take i)).length<=(R ys).length:=λi=>by rw[r];exact preB_take op ys i
 rw[<- r]
 clear r
 refine cA 68 [.tmp 6,.tmp 7] τok func94 ?_;rcases T with rfl|rfl
 all_goals
  refine aC τok<|aC τok ?_
  first
   |refine vn ?_ OO
   |refine vy ?_ OO
    refine vn ?_ OO
  refine aC τok<|cV 8 100 42 3 rfl rfl<|aC τok<|VCode.seq<|aC τok<|VCode.blk<|az τok (σ:=Nat×Bool×List Nd) [(0,_),(1,_),(2,_),(20,_),(21,_)] [] (λq=>[(22,vI q.1),(9,.c (.p (.bool q.2.1))),(8,.c (.row 100))]) (λq=>[(100,.rw 42 3 (q.2.2.map ndP))]) (λq=>q.1<=ys.length/\q.2.2.length<=4096/\(q.2.1=true ->4096<(R ys).length)/\(q.2.1=false ->q.2.2=R (ys.take q.1))) (λq=>ys.length-q.1) (0,false,[]) ⟨KV _,Od,(λh=>by cases h),λ_=>w.symm⟩ ?_;rintro⟨i,L,l⟩ ⟨W,D,j,e⟩;simp only at W D j e;have el:=ak ndP l;refine aj τok<|ae (λg=>?_) (λg=>?_)
  ·have g:(i:Int)<(((ys.map row).map rP).length:Int):=g
   obtain⟨y,E,_⟩:=ay (l:=ys) (k:=i);obtain⟨F,H⟩:=v y (JQ E);have s:=jQ (row y) Oo;rw[je F H]at s;have ey:=ak ndP (row y);refine vm (p:=rP) i (by rw[JX,E];rfl) ?_;refine af s ?_;refine vn ?_ OO;cases L with
   |true=>
    refine vi ?_;exact au (i+1,true,l) ⟨by show i+1<=_;omega,D,j,λh=>by cases h⟩
   |false=>
    obtain rfl:=e rfl;have O:R (ys.take (i+1))=R (ys.take i)++(m::row y):=by rw[List.take_add_one,E];exact z _ y
    have X:=C (i+1);rw[O,JK,JV]at X;refine vi ?_;refine vi ?_;refine ae (λb=>?_) (λb=>?_)
    ·have b:(((R (ys.take i)).map ndP).length:Int)+1+((row y).map ndP).length>4096:=b
     refine vi ?_;exact au (i+1,true,R (ys.take i)) ⟨by show i+1<=_;omega,D,λ_=>Oo,λh=>by cases h⟩
    ·have b:¬ (((R (ys.take i)).map ndP).length:Int)+1+((row y).map ndP).length>4096:=b
     refine aV ?_ (hb:=OK);refine va ?_ (fN _) (hb:=by simp[cQ];omega);refine vi ?_;exact au (i+1,false,R (ys.take i)++(m::row y)) ⟨by show i+1<=_;omega,OK,λh=>(by cases h),λ_=>O.symm⟩ (f:=λk=>sw 100 49 k) (y':=⟨congrArg (λl=>some (SE.rw _ _ l)) (by rw[K,List.map_append,List.map_cons,List.append_assoc];rfl),trivial⟩)
  have g:¬ (i:Int)<(((ys.map row).map rP).length:Int):=g;obtain rfl:i=ys.length:=Oo
  rw[List.take_length]at e;refine aj τok<|af I ?_;refine vn ?_ OO;cases L with
  |true=>
   exact⟨_,_,rfl,rfl,by rw[if_pos (by rw[JK];have:=j rfl;omega)];rfl⟩
  |false=>
   obtain rfl:=e rfl;refine vi ?_;refine ae (λb=>?_) (λb=>?_)
   ·have b:(((R ys).map ndP).length:Int)+((row x).map ndP).length>4096:=b
    exact⟨_,_,rfl,rfl,by rw[if_pos (by rw[JK];omega)];rfl⟩
   ·have b:¬ (((R ys).map ndP).length:Int)+((row x).map ndP).length>4096:=b
    rw[if_neg (by rw[JK];omega)];refine va ?_ (fN _) (hb:=OK);exact⟨_,_,rfl,rfl,congrArg (λl=>PV.tup [.sl l,pI 0]) Od⟩
theorem Is{α:Type}{os:List α}{i j:Nat}{x y:α}(k:Nat)(e:i<j)(h:j<os.length)(l:os[i]?=some x)(o:os[j]?=some y):((os.set i y).set j x)[k]?=if k=i then some y else if k=j then some x else os[k]?:=by
 by_cases b:k=j
 ·subst b
  rw[List.getElem?_set_self (by simpa using h),if_neg Oo,if_pos rfl]
 ·rw[List.getElem?_set_ne Oo]
  by_cases d:k=i
  ·subst d
   rw[List.getElem?_set_self Oo,if_pos rfl]
  ·rw[List.getElem?_set_ne Oo,if_neg d,if_neg b]
abbrev Sl3:=Option Addr×Nat×Nat
def fO(q:Sl3):List PV:=[.raw (sV q)]
theorem revP:sj prog 185 29:=by
 refine GR 28 τok func185 λu b R=>?_;have T:=ak fO b;refine aj τok<|vi (r:=(b.map fO).length-1) ?_;refine az τok (σ:=Nat×List Sl3) [(0,.c (.rv u 0))] [] (λq=>[(2,vI q.1),(3,vI ((b.length:Int)-1-q.1))]) (λq=>[(0,.rw 29 1 (q.2.map fO))]) (λq=>q.1<=b.length/\q.2.length=b.length/\∀k,k<b.length ->q.2[k]?=if k<q.1 \/b.length<=k+q.1 then b[b.length-1-k]? else b[k]?) (λq=>b.length-q.1) (0,b) ⟨KV _,rfl,λk C=>by rw[if_neg OS]⟩ ?_ (x1:=⟨rfl,congrArg (λz=>some (vI z)) (by show ((b.map fO).length:Int)-1=(b.length:Int)-1-(0:Nat);omega),trivial⟩);rintro⟨i,d⟩ ⟨K,s,h⟩;simp only at K s h;refine aj τok<|ae (λg=>?_) (λg=>?_)
 ·have g:(i:Int)<(b.length:Int)-1-i:=g
  obtain⟨j,L⟩:∃j:Nat,(b.length:Int)-1-i=j:=⟨((b.length:Int)-1-i).toNat,Oo⟩
  obtain⟨x,o,_⟩:=ay (l:=d) (k:=i);obtain⟨y,v,_⟩:=ay (l:=d) (k:=j);refine vm (p:=fO) j v ?_;refine dG v<|vm (p:=fO) i o ?_;refine dG o<|vm (p:=fO) i o ?_;refine dG o ?_;have O:(d.map fO).set i (fO y)=(d.set i y).map fO:=by rw[List.map_set]
  have w:((d.map fO).set i (fO y))[j]?=some (fO y):=by rw[List.getElem?_set_ne Oo,JX,v];rfl
  refine nm j (fO y) L w rfl<|uD (fO y) w<|vk ?_;refine vi ?_;refine vi ?_;refine au (i+1,(d.set i y).set j x) ⟨by show i+1<=_;omega,by simp[s],λk C=>?_⟩ (x:=⟨rfl,congrArg (λz=>some (vI z)) (by show (b.length:Int)-1-i-1=(b.length:Int)-1-((i+1:Nat):Int);omega),trivial⟩) (y':=⟨congrArg (λl=>some (SE.rw _ _ l)) (by show ((d.map fO).set i (fO y)).set j (fO x)=_;rw[O];exact(List.map_set ..).symm),trivial⟩);show ((d.set i y).set j x)[k]?=if k<i+1 \/b.length<=k+(i+1)then b[b.length-1-k]? else b[k]?
  rw[Is k Oo Oo o v];have D:=h i Oo;have E:=h j Oo;rw[if_neg Oo,o]at D;rw[if_neg Oo,v]at E
  by_cases F:k=i
  ·subst F
   rw[if_pos rfl,if_pos Oo,show b.length-1-k=j by omega];exact E
  ·rw[if_neg F]
   by_cases H:k=j
   ·subst H
    rw[if_pos rfl,if_pos Oo,show b.length-1-k=i by omega];exact D
   ·rw[if_neg H,h k C]
    by_cases I:k<i \/b.length<=k+i
    ·rw[if_pos I,if_pos Oo]
    ·rw[if_neg I,if_neg Oo]
 ·have g:¬ (i:Int)<(b.length:Int)-1-i:=g
  have e:d=b.reverse:=by
   refine List.ext_getElem? λk=>?_
   by_cases C:k<b.length
   ·rw[h k C,List.getElem?_reverse Oo]
    split
    ·rfl
    ·rw[show b.length-1-k=k by omega]
   ·rw[List.getElem?_eq_none Oo,List.getElem?_eq_none OK]
  subst e;exact⟨rfl,rfl,rfl⟩
theorem sX{t a q:List Nd}{y:Tr}(e:t=a++(row y++q)){p n:Nat}(b:p=a.length)(d:n=a.length+(row y).length):PV.sl (((t.map ndP).take n).drop p)=ah (row y):=by
 subst b d;rw[e,<- List.map_take,<- List.map_drop,<- List.append_assoc,<- JK,List.take_left' rfl,List.drop_left' rfl]
 rfl
theorem cS(l:List Nd):∀z∈l.map ndP,z.length=3:=λz b=>by
 obtain⟨y,_,rfl⟩:=List.mem_map.1 b
 rfl
theorem CK(l:List (List Nd)):∀x∈l.map rP,∃t,x=[.sl t]:=λx b=>by
 obtain⟨y,_,rfl⟩:=List.mem_map.1 b;exact⟨_,rfl⟩
theorem CL{x:Tr}{ys:List Tr}(h:[]++ys.reverse=argsT x):((ys.map row).map rP).reverse=((argsT x).map row).map rP:=by
 rw[<- h,List.nil_append,<- List.map_reverse,<- List.map_reverse]
theorem CM{n:Nd}{f u:Tr}(b:Ok .tm (.mk n [f,u])):row (.mk n [f,u])=[n]++(row f++row u)/\row (.mk n [f,u])=(n::row f)++(row u++[]):=⟨by simp[row,rows],by simp[row,rows]⟩
theorem It{x:Tr}(o:Ok .tm x)(i:(row x).length<=4096):VC prog 148 [ah (row x)] (.tup [ah (row (headT x)),bw ((argsT x).map row)]):=by
 have v:=jQ (row x) Oo;rw[je o i]at v;obtain⟨E,F,_,_⟩:=jD' (row x).length x (KJ _) o;have H:=aS x;refine cA 31 [.tmp 2,.tmp 3] τok func148 ?_;refine aC τok<|aC τok<|af v ?_;refine vn ?_ OO;refine aC τok<|cV 4 1000 29 1 rfl rfl<|aC τok<|az τok (σ:=Tr×List Tr) [] [] (λq=>[(0,.c (.p (ah (row q.1)))),(4,.c (.row 1000))]) (λq=>[(1000,.rw 29 1 ((q.2.map row).map rP))]) (λq=>Ok .tm q.1/\(row q.1).length<=(row x).length/\headT q.1=headT x/\argsT q.1++q.2.reverse=argsT x) (λq=>(row q.1).length) (x,[]) ⟨o,KJ _,rfl,Od⟩ ?_;rintro⟨⟨n,ks⟩,h⟩ ⟨e,r,d,b⟩;simp only at e r d b;have z:h.length<=4096:=by
  have:=congrArg List.length b;rw[JK,List.length_reverse]at this;omega
 have I:=ak rP (h.map row);have K:(h.map row).length=h.length:=List.length_map _;refine aj τok<|vm (p:=ndP) 0 (x:=n) (by simp[row]) ?_;refine ae (λg=>?_) (λg=>?_)
 ·have g:n.op=6:=g
  obtain⟨f,u,rfl,w,L⟩:=ms e g;obtain⟨r1,r2⟩:=CM e;rw[kc g]at d;rw[ke g]at b;have C:=aS f;have s:=aS u;have D:=congrArg List.length r1;simp only[JK,List.length_singleton]at D;have O:=ak ndP (row (.mk n [f,u]));refine af (sU (t:=row (.mk n [f,u])) (a:=[n]) (q:=row u) (y:=f) Oo r1 w) ?_;refine bC (1+(row f).length) (row (.mk n [f,u])).length ?_ (cS _) (h1:=rfl) (h2:=by rw[List.length_map]) (h3:=Oo) (h4:=by rw[List.length_map];show _<=(row (Tr.mk n [f,u])).length;omega);rw[sX (a:=n::row f) (y:=u) (q:=[]) r2 (by rw[JV];omega) (by rw[JV];omega)];refine af (oP s Oo).vc ?_;refine aV ?_ (hb:=OK);refine bC 1 (1+(row f).length) ?_ (cS _) (h1:=rfl) (h3:=Oo) (h4:=by rw[List.length_map];show _<=(row (Tr.mk n [f,u])).length;omega);rw[sX (a:=[n]) (y:=f) (q:=row u) (p:=1) (n:=1+(row f).length) r1 rfl rfl];exact au (f,h++[u]) ⟨w,OS,d,by simp only[List.reverse_append,List.reverse_cons,List.reverse_nil,List.nil_append];rw[<- b];simp⟩ (f:=λk=>sw 1000 22 k) (hm:=by show (row f).length<(row (Tr.mk n [f,u])).length;omega) (y':=⟨congrArg (λl=>some (SE.rw _ _ l)) (by simp only[List.map_append];rfl),trivial⟩)
 ·have g:¬ n.op=6:=g
  rw[lA g]at d;rw[mu g]at b;refine aj τok<|pU (j:=1000) (l:=(h.map row).map rP) revP ?_ ⟨Oo,CK _⟩;refine af (oP (l:=row (.mk n ks)) (aS _) Oo).vc ?_;rw[CL b,<- d];exact eA9
theorem Iu{x:Tr}(o:Ok .tm x)(r:(row x).length<=4096):VC prog 211 [ah (row x)] (.tup [ah (row (headT x)),bw ((argsT x).map row)]):=by
 obtain⟨D,E,_,_⟩:=jD' (row x).length x (KJ _) o;have F:=aS x;refine cA 26 [.tmp 2,.tmp 3] τok func211 ?_;refine aC τok<|aC τok<|cV 4 1000 29 1 rfl rfl<|aC τok<|az τok (σ:=Tr×List Tr) [] [] (λq=>[(0,.c (.p (ah (row q.1)))),(4,.c (.row 1000))]) (λq=>[(1000,.rw 29 1 ((q.2.map row).map rP))]) (λq=>Ok .tm q.1/\(row q.1).length<=(row x).length/\headT q.1=headT x/\argsT q.1++q.2.reverse=argsT x) (λq=>(row q.1).length) (x,[]) ⟨o,KJ _,rfl,Od⟩ ?_;rintro⟨⟨n,ks⟩,h⟩ ⟨e,i,d,b⟩;simp only at e i d b;have v:h.length<=4096:=by
  have:=congrArg List.length b;rw[JK,List.length_reverse]at this;omega
 have H:=ak rP (h.map row);have I:(h.map row).length=h.length:=List.length_map _;refine aj τok<|vm (p:=ndP) 0 (x:=n) (by simp[row]) ?_;refine ae (λg=>?_) (λg=>?_)
 ·have g:n.op=6:=g
  obtain⟨f,u,rfl,s,K⟩:=ms e g;obtain⟨r1,r2⟩:=CM e;rw[kc g]at d;rw[ke g]at b;have w:=aS f;have z:=aS u;have C:=congrArg List.length r1;simp only[JK,List.length_singleton]at C;have L:=ak ndP (row (.mk n [f,u]));refine af (sU (t:=row (.mk n [f,u])) (a:=[n]) (q:=row u) (y:=f) Oo r1 s) ?_;refine bC (1+(row f).length) (row (.mk n [f,u])).length ?_ (cS _) (h1:=rfl) (h2:=by rw[List.length_map]) (h3:=Oo) (h4:=by rw[List.length_map];show _<=(row (Tr.mk n [f,u])).length;omega);rw[sX (a:=n::row f) (y:=u) (q:=[]) r2 (by rw[JV];omega) (by rw[JV];omega)];refine aV ?_ (hb:=OK);refine bC 1 (1+(row f).length) ?_ (cS _) (h1:=rfl) (h3:=Oo) (h4:=by rw[List.length_map];show _<=(row (Tr.mk n [f,u])).length;omega);rw[sX (a:=[n]) (y:=f) (q:=row u) (p:=1) (n:=1+(row f).length) r1 rfl rfl];exact au (f,h++[u]) ⟨s,OS,d,by simp only[List.reverse_append,List.reverse_cons,List.reverse_nil,List.nil_append];rw[<- b];simp⟩ (f:=λk=>sw 1000 18 k) (hm:=by show (row f).length<(row (Tr.mk n [f,u])).length;omega) (y':=⟨congrArg (λl=>some (SE.rw _ _ l)) (by simp only[List.map_append];rfl),trivial⟩)
 ·have g:¬ n.op=6:=g
  rw[lA g]at d;rw[mu g]at b;refine aj τok<|pU (j:=1000) (l:=(h.map row).map rP) revP ?_ ⟨Oo,CK _⟩;rw[CL b,<- d];exact eA9
def atP(x:Atom):List PV:=[pI x.var,pI x.add]
def cr(l:List Atom):PV:=.sl (l.map atP)
def cW(r:Except Int Tr):PV:=match r with
 | .error e=>.tup [.sl [],pI e]
 | .ok y=>.tup [ah (row y),pI 0]
theorem cj{x:Tr}(b:Wf x){k:Nat}(d:k<(kidsT x).length:=by omega):(kidsT x)[k]?=some (kidD x k)/\Wf (kidD x k)/\(row (kidD x k)).length<(row x).length:=by
 have h:(kidsT x)[k]?=some (kidD x k):=by
  unfold kidD;rw[List.getD_eq_getElem?_getD,List.getElem?_eq_getElem d]
  rfl
 exact⟨h,b.kid h,hH b.ok h⟩
theorem sY{x:Tr}(b:Wf x):∀y∈kidsT x,Wf y/\(row y).length<(row x).length:=λy e=>by
 obtain⟨k,d⟩:=JH e;exact⟨b.kid d,hH b.ok d⟩
theorem aB{Q:Nd ->Prop}{N:Int}{x:Tr}(h:Ft Q N x):Wf x:=⟨h.ok,h.len⟩
theorem aJ{x:Tr}(b:Wf x):(row x)[0]?=some x.n:=by rw[iA b.ok];rfl
theorem aF{x:Tr}(b:Wf x){k:Nat}(d:k<(kidsT x).length:=by omega):((kidsT x).map row)[k]?=some (row (kidD x k)):=by
 rw[JX,(cj b d).1]
 rfl
theorem nL{x:Tr}(i:Ok .tm x)(h:x.n.op=4 \/x.n.op=5):row x=[x.n]++(row (kidD x 0)++row (kidD x 1))/\row x=(x.n::row (kidD x 0))++row (kidD x 1)/\kidsT x=[kidD x 0,kidD x 1]/\Ok .tm (kidD x 0):=by
 obtain⟨o,q⟩:=lB i Oo Oo;have r:bp x.n=2:=by rcases h with h|h<;>simp[bp,h]
 obtain⟨a,b,d⟩:=xi (l:=x.ks) Oo;have e:=o;rw[d]at e;have s:kidD x 0=a:=by simp[kidD,e]
 have v:kidD x 1=b:=by simp[kidD,e]
 have w:Ok .tm a:=by
  obtain⟨n,ks⟩:=x;simp only[Tr.ks]at d;subst d;have j:=i.kids;have k:=jH j.2.1 j.2.2;have:nx Md.tm n 0= .tm:=by rcases h with h|h<;>simp only[Tr.n]at h<;>simp[nx,h]
  rw[this]at k;exact k.1
 rw[s,v];refine⟨?_,?_,e,w⟩
 ·obtain⟨n,ks⟩:=x
  simp only[Tr.ks]at d;subst d;simp[row,rows,Tr.n]
 ·obtain⟨n,ks⟩:=x
  simp only[Tr.ks]at d;subst d;simp[row,rows,Tr.n]
theorem oQ{x:Tr}(j:Ok .tm x)(h:x.n.op=7):kidsT x=[kidD x 0,kidD x 1,kidD x 2]/\Ok .tm (kidD x 0)/\Ok .tm (kidD x 1)/\row x=[x.n]++(row (kidD x 0)++(row (kidD x 1)++row (kidD x 2)))/\row x=(x.n::row (kidD x 0))++(row (kidD x 1)++row (kidD x 2))/\row x=(x.n::(row (kidD x 0)++row (kidD x 1)))++row (kidD x 2):=by
 obtain⟨q,r⟩:=lB j Oo Oo;have s:bp x.n=3:=by simp[bp,h]
 obtain⟨a,b,c,e⟩:=Cq (l:=x.ks) Oo;have d:=q;rw[e]at d;have v:kidD x 0=a:=by simp[kidD,d]
 have w:kidD x 1=b:=by simp[kidD,d]
 have z:kidD x 2=c:=by simp[kidD,d]
 rw[v,w,z];obtain⟨n,ks⟩:=x;simp only[Tr.ks]at e;subst e;have C:n.op=7:=h;have k:=j.kids;have i:=jH k.2.1 k.2.2;have o:=jH i.2.1 i.2.2;have:nx Md.tm n 0= .tm:=by simp[nx,C]
 rw[this]at i o;exact⟨d,i.1,o.1,by simp[row,rows,Tr.n],by simp[row,rows,Tr.n],by simp[row,rows,Tr.n]⟩
theorem dU{Q:Nd ->Prop}{N:Int}{x:Tr}(h:Ft Q N x)(h4:x.n.op=4 \/x.n.op=5):(kidsT x).length=2/\Ft Q N (kidD x 0)/\Ft Q (N+1) (kidD x 1):=by
 obtain⟨d,i⟩:=lB h.ok Oo Oo;have j:bp x.n=2:=by rcases h4 with h4|h4<;>simp[bp,h4]
 have e:=h.kidN 0 (by rw[d];omega) (b:=0) (by rcases h4 with h4|h4<;>simp[kb,aY,h4]);have k:=h.kidN 1 (by rw[d];omega) (b:=1) (by rcases h4 with h4|h4<;>simp[kb,aY,h4]);rw[Int.add_zero]at e;exact⟨by rw[d];omega,e,k⟩
theorem qA{Q:Nd ->Prop}{N:Int}{x:Tr}(h:Ft Q N x)(e:x.n.op=6):(kidsT x).length=2/\Ft Q N (kidD x 0)/\Ft Q N (kidD x 1):=by
 obtain⟨d,k⟩:=lB h.ok Oo Oo;have l:bp x.n=2:=by simp[bp,e]
 have i:=h.kidN 0 (by rw[d];omega) (b:=0) (by simp[kb,aY,e]);have j:=h.kidN 1 (by rw[d];omega) (b:=0) (by simp[kb,aY,e]);rw[Int.add_zero]at i j;exact⟨by rw[d];omega,i,j⟩
theorem nM{Q:Nd ->Prop}{N:Int}{x:Tr}(h:Ft Q N x)(e:x.n.op=7):(kidsT x).length=3/\Ft Q N (kidD x 0)/\Ft Q N (kidD x 1)/\Ft Q (N+1) (kidD x 2):=by
 obtain⟨d,k⟩:=lB h.ok Oo Oo;have l:bp x.n=3:=by simp[bp,e]
 have i:=h.kidN 0 (by rw[d];omega) (b:=0) (by simp[kb,aY,e]);have j:=h.kidN 1 (by rw[d];omega) (b:=0) (by simp[kb,aY,e]);have o:=h.kidN 2 (by rw[d];omega) (b:=1) (by simp[kb,aY,e]);rw[Int.add_zero]at i j;exact⟨by rw[d];omega,i,j,o⟩
theorem hO{x:Tr}{ys:List Tr}{e:Int}(h:aK x ys= .error e):e=9:=by
 unfold aK at h;split at h
 ·injection h with h;exact h.symm
 ·cases h
theorem iB{b u:Tr}{v:Int}{e:Int}(h:bk b u v= .error e):e=9:=by
 unfold bk at h;split at h
 ·injection h with h;exact h.symm
 ·cases h
theorem CN{D:Mem}:∀{css:List (List Value)} {vs:List Value},All2 (rVal.den D) css vs ->css=vs.map λv=>[v]
 |[],[],_=>rfl
 |a::r,v::s,h=>by
  obtain⟨⟨e,_⟩,h⟩:=h;rw[List.map_cons,<- e,CN h]
theorem Iv{f:FuncId}{K:List PV}{ys:List Tr}(z:dz prog f)(h:∀(w:World) (C:Mem) (vs:List Value),Sub C w ->(∀b o v,C b o v ->b<w.heap.size) ->cP C K vs ->Calls prog f vs.toArray w λe w'=>∃v os D,e= .returned v/\Own rVal 29 w.heap.size w' v os/\sM D os ys/\pK C w D w'/\∀g,blk v=some g ->∀b o u,D b o u ->b≠g):VO prog f K 29 1 ((ys.map row).map rP):=.of ⟨z,λw C vs L R=>by
 refine(h w C vs L (λb o v h=>(L b o v h).lt) R).mono λe w' ⟨u,os,D,T,V,O,W,E⟩=>?_;have l:=O.1;obtain⟨X,q1,Y⟩:=V.row;obtain rfl:=CN Y;refine⟨u,D,os.map λv=>[v],T,by have h:=q1;rw[l]at h;rw[List.length_map,List.length_map];exact h,λx d=>by obtain⟨_,_,rfl⟩:=List.mem_map.1 d;rfl,by simp[l],λi us x r d=>?_,W,E⟩;rw[JX]at r d;rw[JX]at d;cases F:os[i]? with
 |none=>rw[F]at r;cases r
 |some v=>
  cases k:ys[i]? with
  |none=>rw[k]at d;cases d
  |some y=>
   rw[F]at r;rw[k]at d;obtain rfl:=JB r;obtain rfl:=JB d;obtain⟨a,c,rfl,s,Z⟩:=O.2 i v y F k;have s:TmV D y (.slice a (row y).length c):=⟨a,c,rfl,s,Z⟩
   refine⟨rfl,λj p q H I=>?_⟩
   match j,H,I with
   |0,H,I=>
    obtain rfl:=JB H;obtain rfl:=JB I;exact⟨(TmV.sv.1 s).one,(TmV.sv.1 s).rv eP'⟩⟩
theorem CO{ys:List Tr}(D:∀y∈ys,Ok .tm y/\(row y).length<=4096)(hl:ys.length<=100000):VO prog 156 [bw (ys.map row)] 29 1 ((ys.map row).map rP):=Iv ⟨_,func156,rfl,OO⟩ λw C i r d E=>by
 obtain⟨v,rfl,F⟩:=Cv E;obtain⟨a,c,i,rfl,O,j,s⟩:=(HV D Oo F).vals;have l:=s.1;rw[<- l];refine(HQ r i a c j Oo).2.mono λe R ⟨⟨u,H,q⟩,k⟩=>⟨u,i,C,H,q,s,⟨r.tr k,λ_ _ _ h=>h,λb o v h=>.inl ⟨o,v,h⟩,k⟩,λg I b o z K=>?_⟩
 obtain⟨L,q1,_⟩:=q.row;have:=q.block g (by rw[<- lZ q1];exact I);have:=d b o z K;omega
section
variable{Q:Nd ->Prop}{N:Int}{x y:Tr}
theorem hY(b:Ft Q N x):VC prog 91 [ah (row x)] (bw ((kidsT x).map row)):=(CH b.ok b.len).vc
theorem kt(d:Ft Q N x)(e:N<=100000){b:Int}(hb:0<=b/\b<=500000):VC prog 84 [ah (row x),pI b,pI 0] (.tup [ah (row (aH x b 0)),pI 0]):=Ic d.ok (d.small e) d.len hb ⟨OO,OO⟩
theorem sZ(b:Ft Q N x):VC prog 148 [ah (row x)] (.tup [ah (row (headT x)),bw ((argsT x).map row)]):=It b.ok b.len
theorem nN{u:Tr}{v:Int}(d:Ft Q (N+1+v) x)(b:Ft Q N u)(e:N<=100000)(h:0<=v/\v<=300000):VC prog 96 [ah (row x),ah (row u),pI v] (cW (bk x u v)):=by
 rw[show cW (bk x u v)=_ by unfold bk;rw[apply_ite cW]];exact Il d.ok b.ok (b.small e) d.len b.len h
theorem xy{ys:List Tr}(b:Ft Q N x)(d:∀y∈ys,Ft Q N y)(e:ys.length<=100000):VC prog 139 [ah (row x),bw (ys.map row)] (cW (aK x ys)):=by
 rw[show cW (aK x ys)=_ by unfold aK;rw[apply_ite cW]];exact Iq b.ok b.len (λy h=>⟨(d y h).ok,(d y h).len⟩) e
theorem eN(l:List (List PV)):VC prog 83 [.sl l,pI 0] (.sl l):=by
 refine vf 11 [.tmp 4] τok func83 ?_;refine vn ?_ OO;exact eA9
theorem iX(l:List (List PV)){e:Int}(he:e≠0):VE prog 83 [.sl l,pI e] (ew e):=by
 refine nB (r:=.error (ew e)) 11 [.tmp 4] τok func83 ?_;refine aj τok<|vy ?_ he;exact qn (λw=>by simp[Instr.makeInterface,underlying129,go_sem])<|rfl
theorem Iw(b:Ft Q N x):VO prog 91 [ah (row x)] 29 1 (((kidsT x).map row).map rP):=CH b.ok b.len
end
def fC(x:Tr):PV:=.agg [ah (row (headT x)),bw ((argsT x).map row)]
section
variable{Q:Nd ->Prop}{N:Int}{x y p:Tr}
theorem endP{a q:List Nd}(b:Ft Q N x)(e:row x=a++(row y++q))(d:Ok .tm y){i:Int}(hi:i=(a.length:Int)):VC prog 168 [ah (row x),pI i] (pI ((a.length+(row y).length:Nat):Int)):=by
 subst hi;exact sU (by have:=b.len;omega) e d
theorem xz(d:Ft Q N x)(b:x.n.op=12):VC prog 230 [ah (row x)] (pI (bS x)):=by
 have X:=dM d.ok b;have D:=d.len;obtain⟨f,E,o,H,I⟩:=mC d.ok b;obtain⟨k,K⟩:∃k:Nat,x.n.a=(k:Int):=⟨x.n.a.toNat,Oo⟩
 rw[K,Int.toNat_natCast]at E;have j:∀i,i<=k ->(rows (x.ks.take i)).length<(row x).length:=λi L=>by
  obtain⟨g,O,_⟩:=ay (l:=x.ks) (k:=i);obtain⟨q,r,_,_,_,_,_,_,e,_⟩:=kj d.ok b O;have:=aI e;omega
 refine vf 22 [.tmp 2] τok func230 ?_;refine vm (p:=ndP) 0 (aJ (aB d)) ?_;refine az τok (σ:=Nat) [(0,_),(7,_)] [] (λi=>[(8,vI i),(3,vI ((1+(rows (x.ks.take i)).length:Nat):Int))]) (λ_=>[]) (λi=>i<=k) (λi=>k-i) 0 (KV _) ?_;intro i L;refine aj τok<|ae (λg=>?_) (λg=>?_)
 ·have g:(i:Int)<x.n.a:=g
  obtain⟨h,F,_⟩:=ay (l:=x.ks) (k:=i);obtain⟨q,r,s,v,_,w,C,_,_,R,T⟩:=kj d.ok b F;have V:=j (i+1) Oo;have W:(rows (x.ks.take (i+1))).length=(rows (x.ks.take i)).length+(1+((row q).length+(row r).length)):=by
   rw[dA F,dc',JK,s];simp[rows,row];omega
  refine vi ?_;refine af (endP d (i:=((1+(rows (x.ks.take i)).length:Nat):Int)+1) R w OK) ?_;refine af (endP d T C OK) ?_;refine vi ?_;exact au (i+1) (show i+1<=k by omega) (x:=⟨rfl,congrArg (λz=>some (vI z)) (by rw[W];simp;omega),trivial⟩)
 have g:¬ (i:Int)<x.n.a:=g;obtain rfl:i=k:=Oo
 obtain⟨q,r,_,v,_,_,_,_,e,_⟩:=kj d.ok b E;exact vm (p:=ndP) (1+(rows (x.ks.take i)).length) e<|⟨_,_,rfl,rfl,congrArg (PV.int .i64) o.symm⟩
theorem oR(b:Ft Q N x):VC prog 183 [ah (row x)] (fC x):=by
 refine vf 13 [.cell 2 219] τok func183 ?_;refine af (sZ b) ?_;exact eA9
theorem CP(b:Ft Q N x):VC prog 184 [fC x] (ah (row x)):=by
 have h:=b.nargs;have i:=b.len;have d:=xy b.head b.args Oo;have e:aK (headT x) (argsT x)= .ok x:=by
  unfold aK;rw[b.spine,if_neg Oo]
 rw[e]at d;refine vf 11 [.tmp 2] τok func184 ?_;refine af d ?_;refine af (eN _) ?_;exact eA9
theorem oS{ys:List Tr}(j:Qk Q)(d:Ft Q N x)(i:∀y∈ys,Ft Q N y)(k:ys.length<=100000):VX prog 232 [ah (row x),bw (ys.map row)] (match aK x ys with
  | .ok z=>.ok (fC z)
  | .error e=>.error (ew e)):=by
 have b:=xy d i k;refine nB 12 [.cell 4 219] τok func232 ?_;refine aj τok ?_;cases h:aK x ys with
 |error e=>
  rw[h]at b;have l:e≠0:=by
   unfold aK at h;split at h
   ·injection h with h
    omega
   ·cases h
  refine af b ?_;refine bO (iX _ l) ?_;exact rfl
 |ok z=>
  rw[h]at b;refine af b ?_;refine af (eN _) ?_;refine af (oR (fL j d i h)) ?_;exact eA9
theorem CQ(b:Ft Q N x):VC prog 207 [fC x] (pI (len x)):=by
 have j:=b.nargs;have o:=b.len;have q:=ak ndP (row (headT x));have r:=ak (λt=>[ah t]) ((argsT x).map row);have s:=ak row (argsT x);have d:∀i,i<=(argsT x).length ->(rows ((argsT x).take i)).length<=(rows (argsT x)).length:=λi e=>by
  have:=congrArg (λl=>(rows l).length) (List.take_append_drop i (argsT x));simp only[dc',JK]at this;omega
 refine cA 23 [.tmp 2] τok func207 ?_;refine aj τok ?_;refine vl τok (σ:=Nat) [(10,_),(11,_)] (λi=>[(3,vI (((row (headT x)).length+i+(rows ((argsT x).take i)).length:Nat):Int)),(12,vI i)]) (λi=>i<=(argsT x).length) (λi=>(argsT x).length-i) 0 (KV _) ?_ (x1:=⟨congrArg (λn:Int=>some (vI n)) (by simp[rows]),rfl,trivial⟩);intro i e;have v:=d i e;refine ae (λg=>?_) (λg=>?_)
 ·have g:(i:Int)<((((argsT x).map row).map λt=>[ah t]).length:Int):=g
  obtain⟨a,h,_⟩:=ay (l:=argsT x) (k:=i);have w:=d (i+1) Oo;have z:=ak ndP (row a);have C:(rows ((argsT x).take (i+1))).length=(rows ((argsT x).take i)).length+(row a).length:=by
   rw[dA h,dc',JK];simp[rows]
  refine vm (p:=rP) i (x:=row a) (by rw[JX,h];rfl) ?_;refine vi ?_;refine vi ?_;refine vi ?_;exact au (i+1) (by show i+1<=_;omega) (x:=⟨congrArg (λn:Int=>some (vI n)) Oo,rfl,trivial⟩)
 ·have g:¬ (i:Int)<((((argsT x).map row).map λt=>[ah t]).length:Int):=g
  refine⟨_,_,rfl,rfl,?_⟩;rw[JG Oo];show pI _=pI _;unfold len
  congr 1
  omega
theorem Ix(b:Ft Q N x)(room:Int):VX prog 210 [fC x,pI room] (if room<len x then .error (ew 9)else .ok (fC x)):=by
 refine nB 12 [.cell 4 219] τok func210 ?_;refine aj τok<|af (CQ b) ?_;refine ae (λg=>?_) (λg=>?_)
 ·rw[if_pos g]
  exact qn (Cg _)<|rfl
 ·rw[if_neg g]
  exact eA9
end
section
variable{Q:Nd ->Prop}{N:Int}{x y p:Tr}
theorem Iy(o:Ft Q N x):VC prog 205 [fC x] (match cg x with
  |some p=>.tup [ah (row p),.bool true]
  |none=>.tup [.sl [],.bool false]):=by
 have d:=o.head;have i:=aB d;have C:=ak (λt=>[ah t]) ((argsT x).map row);have D:=ak row (argsT x);unfold cg;refine vf 32 [.tmp 2,.tmp 3] τok func205 ?_;refine vm (p:=ndP) 0 (aJ i) ?_;refine ae (λg=>?_) (λg=>?_)
 ·have g:(headT x).n.op=11:=g
  obtain⟨q,r,_,_⟩:=gd d.ok g;rw[if_pos g];refine af (hY d) ?_;refine vm (p:=rP) 1 (aF i (by rw[q];omega)) ?_;exact eA9
 have g:¬ (headT x).n.op=11:=g;rw[if_neg g];refine ae (λb=>?_) (λb=>?_)
 ·have b:(headT x).n.op=12:=b
  rw[if_pos b];obtain⟨f,E,s,v,w⟩:=mC d.ok b;refine af (xz d b) ?_;refine ae (λh=>?_) (λh=>?_)
  ·have h:bS (headT x)<((((argsT x).map row).map λt=>[ah t]).length:Int):=h
   rw[if_pos Oo];obtain⟨z,j,_⟩:=ay (l:=argsT x) (k:=(bS (headT x)).toNat);have e:eI x (bS (headT x))=z:=by simp[eI,j]
   rw[e];refine vm (p:=rP) (bS (headT x)).toNat (x:=row z) (by rw[JX,j];rfl) ?_;exact eA9
  ·have h:¬ bS (headT x)<((((argsT x).map row).map λt=>[ah t]).length:Int):=h
   rw[if_neg Oo];exact eA9
 ·have b:¬ (headT x).n.op=12:=b
  rw[if_neg b];exact eA9
theorem Iz{ys:List Tr}{L:List (List PV)}(b:L=(ys.map row).map rP)(e:∀y∈ys,Ok .tm y/\(row y).length<=4096)(hl:ys.length<=100000)(d:0<(rows ys).length)(h1:(rows ys).length<=100000):VC prog 172 [.sl L] (.sl ((rows ys).map ndP)):=by
 subst b;have h:=(CJ (L:=ys.map row) (by rw[List.length_map];omega) (by rw[fi'];exact d) (by rw[fi'];omega)).vc
 rwa [fi']at h
theorem IA(F:Qk Q)(e:Ft Q N x)(D:Ft Q N p)(b:cg x=some y)(hl:(row (bJ x p)).length<=4096):VC prog 206 [fC x,ah (row p)] (fC (bJ x p)):=by
 obtain⟨H,I,K⟩:=xg F e D b hl;have j:=e.head;have v:=aB j;have hn:=e.nargs;have O:=e.len;have o:=gA j.ok;have d:=H.head;have e2:=ak row (argsT x);unfold fC;rw[K];rw[I]at d ⊢;refine vf 43 [.cell 4 219] τok func206 ?_;refine vm (p:=ndP) 0 (aJ v) ?_;refine ae (λg=>?_) (λg=>?_)
 ·have g:(headT x).n.op=11:=g
  rw[if_pos g]at d;rw[if_pos g,if_pos g];obtain⟨w,R,_,_⟩:=gd j.ok g;obtain⟨T,C⟩:∃k,(headT x).ks[1]?=some k:=⟨_,gE⟩
  rw[w]at o;have q:((headT x).ks.map row)[1]?=some (row T):=by rw[JX,C];rfl
  have V:(row (.mk (headT x).n ((headT x).ks.set 1 p))).length=1+(rows ((headT x).ks.set 1 p)).length:=by
   simp[row];omega
  have W:=d.len;have r:∀{l:List Tr} {z:Tr},z∈l ->(row z).length<=(rows l).length:=λh=>eE' h;have X:=aS p;have Y:=r (l:=(headT x).ks.set 1 p) (z:=p) (JQ (i:=1) (by rw[List.getElem?_set_self Oo]));refine eV (Iw j) ?_;rw[w];refine vm (p:=rP) 1 q ?_;refine dG q<|vm (p:=ndP) 0 (aJ v) ?_;have Z:=Iz (ys:=(headT x).ks.set 1 p) (L:=(((headT x).ks.map row).map rP).set 1 [ah (row p)]) (by rw[List.map_set,List.map_set];rfl) (λz s=>⟨?_,?_⟩) OK Oo Oo
  ·refine af Z ?_
   refine va (p:=ndP) ?_ (fN _);refine vk<|⟨_,_,rfl,rfl,?_⟩
   generalize headT x=h
   rfl
  ·rcases List.mem_or_eq_of_mem_set s with h|rfl
   ·rw[<- w]at h
    exact(sY v z h).1.ok
   ·exact D.ok
  ·have:=r s
   omega
 ·have g:¬ (headT x).n.op=11:=g
  rw[if_neg g,if_neg g];unfold cg at b;rw[if_neg g]at b;split at b
  ·rename_i E
   split at b
   ·rename_i g3
    obtain⟨f,hf,a0,a1,a2⟩:=mC j.ok E;obtain⟨z,s,_⟩:=ay (l:=argsT x) (k:=(bS (headT x)).toNat);have q:((argsT x).map row)[(bS (headT x)).toNat]?=some (row z):=by rw[JX,s];rfl
    refine eV (CO (ys:=argsT x) (λy b=>⟨(e.args y b).ok,(e.args y b).len⟩) Oo) ?_;refine af (xz j E) ?_;refine vm (p:=rP) (bS (headT x)).toNat q ?_;refine dG q<|⟨_,_,rfl,rfl,?_⟩;unfold bw;rw[List.map_set,List.map_set]
    rfl
   ·cases b
  ·cases b
end
theorem s5{Q:Nd ->Prop}{N:Int}{x:Tr}(h:Ft Q N x)(h1:x.n.op=1):0<=x.n.a/\x.n.a<N:=by
 obtain⟨n,ks⟩:=x;exact⟨(h.var_lt h1).1,(h.var_lt h1).2.1⟩
def ia(B:aq)(cx:Ctx)(n:Int):List PV:=[.int .i64 B.vars,.sl (B.orders.map orP),.sl (B.ents.map aQ),.int .i64 B.nat,.sl (B.prims.map prP),aG (cx.map aA),pI n]
section
variable{B:aq}{cx:Ctx}{N:Int}{x:Tr}{fu:Int}
theorem IB(K:GoodB B){n:Nd}(L:QB B n)(z:n.op=11){s:Tr}(w:Ft (QB B) N s):VP prog 231 250 (ia B cx fu) (ia B cx fu) [.agg (ndP n),fC s] (.bool (gX B n s)):=by
 have O:=aB w.head;obtain⟨i,e,Y,Z,qi,hi,R,T,j,C⟩:=K.fam (jK L (.inr z)) (KJ _);have e1:=ak (λt=>[ah t]) ((argsT s).map row);have e2:=ak row (argsT s);have e3:=ak (λt=>[ah t]) e.params;have H:=w.nargs;have D:=db w.head.ok.pl;obtain⟨c,E⟩:∃c,(headT s).n=c:=⟨_,rfl⟩
 have I:=w.head.node';rw[E]at D I;have b:gX B n s=(decide (c.op=10) && (decide (c.a=n.a) && (decide (c.b<n.b) && decide ((argsT s).length=e.params.length+(iw B n.a c.b).args.length)))):=by
  unfold gX eH;rw[E,j]
 refine aX (r:=.ok (ia B cx fu,.bool (gX B n s))) 57 [.tmp 6] τok func231 ?_;refine aj τok<|vm (p:=ndP) 0 (aJ O) ?_;refine vm (p:=aQ) i T ?_;refine vk ?_;rw[E];refine ae (λk=>?_) (λk=>?_);rotate_left
 ·refine vk ?_
  rw[b,decide_eq_false k];exact eP9
 have k:c.op=10:=k;refine ae (λl=>?_) (λl=>?_);rotate_left
 ·refine vk ?_
  rw[b,decide_eq_false (p:=c.a=n.a) l,Bool.false_and,Bool.and_false];exact eP9
 have l:c.a=n.a:=l;refine ae (λo=>?_) (λo=>?_);rotate_left
 ·refine vk ?_
  rw[b,decide_eq_false (p:=c.b<n.b) o,Bool.false_and,Bool.and_false,Bool.and_false];exact eP9
 have o:c.b<n.b:=o;have F:=sQ I k;rw[l,j]at F;obtain⟨q,d⟩:∃q,e.ctors[c.b.toNat]?=some q:=⟨_,gE⟩
 have h:iw B n.a c.b=q:=by
  unfold iw;rw[j,List.getD_eq_getElem?_getD,d]
  rfl
 have e4:=ak (λt=>[ah t]) q.args;obtain⟨ga,go,v⟩:=C.ct _ q d;have V:e.params.length<=16:=by rw[C.params,List.length_map];exact C.lp
 have W:q.args.length<=16:=by rw[v.args,List.length_map];exact v.la
 refine vm (p:=aZ) c.b.toNat d ?_;refine vi ?_;refine ae (λX=>?_) (λX=>?_)
 ·refine vk ?_
  rw[b,h,decide_eq_true k,decide_eq_true l,decide_eq_true o,decide_eq_true Oo];exact eP9
 ·refine vk ?_
  rw[b,h,decide_eq_true k,decide_eq_true l,decide_eq_true o,decide_eq_false Oo];exact eP9
theorem IC(hB:GoodB B)(a0:cx.length<=100000)(V:Ft (QB B) (cx.length:Int) x):VP prog 208 250 (ia B cx fu) (ia B cx fu) [fC x] (.bool (cf B cx x)):=by
 have j:=V.head;have W:=aB j;have e1:=ak (λt=>[ah t]) ((argsT x).map row);have e2:=ak row (argsT x);have eC:=ak bdP (cx.map aA);have a1:=ak aA cx;have hq:=j.node';have E:=λ(h1:(headT x).n.op=1)=>s5 j h1;generalize d:cf B cx x=F;unfold cf at d;simp only at d
 generalize K:headT x=h at *
 refine aX (r:=.ok (ia B cx fu,.bool F)) 76 [.tmp 4] τok func208 ?_;refine aj τok ?_;unfold fC;rw[K];refine vm (p:=ndP) 0 (aJ W) ?_;refine ae (λv=>?_) (λv=>?_)
 ·have v:h.n.op=5:=v
  rw[if_pos v]at d;refine ae (λg=>?_) (λg=>?_)
  ·have g:(0:Int)<((((argsT x).map row).map λt=>[ah t]).length:Int):=g
   rw[decide_eq_true Oo]at d;subst d;exact eP9
  ·have g:¬ (0:Int)<((((argsT x).map row).map λt=>[ah t]).length:Int):=g
   rw[decide_eq_false Oo]at d;subst d;exact eP9
 have v:¬ h.n.op=5:=v;rw[if_neg v]at d;refine ae (λC=>?_) (λC=>?_)
 ·have C:h.n.op=7:=C
  rw[if_pos (.inl C)]at d;subst d;exact eP9
 have C:¬ h.n.op=7:=C;refine ae (λD=>?_) (λD=>?_)
 ·have D:h.n.op=8:=D
  rw[if_pos (.inr D)]at d;subst d;exact eP9
 have D:¬ h.n.op=8:=D;rw[if_neg Oo]at d;refine ae (λo=>?_) (λo=>?_)
 ·have o:h.n.op=1:=o
  rw[if_pos o]at d;obtain⟨n0,n1⟩:=E o;have H:=mA n0 n1;obtain⟨⟨ty,w⟩,L⟩:∃q,eZ cx h.n.a=q:=⟨_,rfl⟩
  rw[L]at H d;have O:(cx.map aA)[cx.length-1-h.n.a.toNat]?=some (row ty,nS' w):=by rw[JX,H];rfl
  have e3:=ak ndP (nS' w);have X:=HP w;refine vi ?_;refine vi ?_;refine vm (p:=bdP) (cx.length-1-h.n.a.toNat) O ?_ Oo;refine ae (λg=>?_) (λg=>?_)
  ·have g:(0:Int)<(((nS' w).map ndP).length:Int):=g
   rw[X.1 Oo]at d;subst d;exact kP9
  ·have g:¬ (0:Int)<(((nS' w).map ndP).length:Int):=g
   have:w.isSome=false:=by
    cases hs:w.isSome with
    |false=>rfl
    |true=>
     have:=X.2 hs;omega
   rw[this]at d;subst d;exact kP9
 have o:¬ h.n.op=1:=o;rw[if_neg o]at d;refine ae (λe=>?_) (λe=>?_)
 ·have e:h.n.op=11:=e
  rw[if_pos e]at d;obtain⟨Y,a2,_,_⟩:=gd j.ok e;have Z:=j.kidN 1 (by rw[Y];omega) (b:=0) (by simp[kb,aY,e]);have s:=IB (cx:=cx) (fu:=fu) hB hq e Z;rw[d]at s;refine af (hY j) ?_;refine vm (p:=rP) 1 (aF W (by rw[Y];omega)) ?_;refine af (oR Z) ?_;refine ax s ?_;exact kP9
 have e:¬ h.n.op=11:=e;rw[if_neg e]at d;refine ae (λi=>?_) (λi=>?_)
 ·have i:h.n.op=12:=i
  rw[if_pos i]at d;obtain⟨f,hf,a3,a4,a5⟩:=mC j.ok i;refine af (xz j i) ?_;refine ae (λI=>?_) (λI=>?_)
  ·have I:bS h<((((argsT x).map row).map λt=>[ah t]).length:Int):=I
   rw[decide_eq_true (show bS h<((argsT x).length:Int) by omega),Bool.true_and]at d;obtain⟨z,R,_⟩:=ay (l:=argsT x) (k:=(bS h).toNat);rw[List.getD_eq_getElem?_getD,R]at d;have d:decide ((headT z).n.op=10)=F:=d;have fz:=V.args z (JQ R);refine vm (p:=rP) (bS h).toNat (x:=row z) (by rw[JX,R];rfl) ?_;refine af (oR fz) ?_;refine vm (p:=ndP) 0 (aJ (aB fz.head)) ?_;refine ae (λT=>?_) (λT=>?_)
   ·rw[decide_eq_true (p:=(headT z).n.op=10) T]at d
    subst d;exact eP9
   ·rw[decide_eq_false (p:=(headT z).n.op=10) T]at d
    subst d;exact eP9
  ·have I:¬ bS h<((((argsT x).map row).map λt=>[ah t]).length:Int):=I
   rw[decide_eq_false (show ¬ bS h<((argsT x).length:Int) by omega),Bool.false_and]at d;subst d;exact eP9
 ·have i:¬ h.n.op=12:=i
  rw[if_neg i]at d;subst d;exact eP9
end
theorem du{x y:Tr}{a q:List Nd}(e:row x=a++(row y++q)){p n:Nat}(b:p=a.length)(d:n=a.length+(row y).length):PV.sl ((((row x).map ndP).take n).drop p)=ah (row y):=by
 subst b d;rw[e,<- List.map_take,<- List.map_drop,<- List.append_assoc,<- JK,List.take_left' rfl,List.drop_left' rfl]
 rfl
section
variable{Q:Nd ->Prop}{N:Int}{x y p:Tr}
theorem ID(b:Ft Q N x):VO prog 46 [ah (row x)] 42 3 ((row x).map ndP):=oP (aS x) (by have:=b.len;omega)
theorem IE(n:Nat)(b:n<=1000000):VO prog 248 [.raw (.slice none 0 0),pI n] 29 1 []:=CI ⟨_,func248,rfl,OO⟩ (HR n b)
def rQ(L:List (List Nd)):List PV:=[.sl (L.map rP)]
theorem IF{L:List (List (List Nd))}(hl:L.length<=1000000)(h1:L.flatten.length<=1000000):VC prog 233 [.sl (L.map rQ)] (bw L.flatten):=by
 have q:=ak rQ L;refine VO.vc (e:=29) (sz:=1)<|lu 36 [.tmp 2] τok func233 ?_;refine aj τok<|az τok (σ:=Nat) [(0,_),(9,_),(10,_)] [] (λi=>[(11,vI i),(3,vI ((L.take i).flatten.length:Nat))]) (λ_=>[]) (λi=>i<=L.length) (λi=>L.length-i) 0 (KV _) ?_;intro i h;have j:=mE L i;refine aj τok<|ae (λg=>?_) (λg=>?_)
 ·have g:(i:Int)<((L.map rQ).length:Int):=g
  obtain⟨x,b,_⟩:=ay (l:=L) (k:=i);have o:=sW b;have d:=mE L (i+1);have r:=ak rP x;refine vm (p:=rQ) i b ?_;refine vi ?_;refine vn ?_;refine vi ?_;exact au (i+1) (show i+1<=_ by omega) (x:=⟨rfl,congrArg (λz=>some (vI z)) (by show ((L.take i).flatten.length:Int)+(x.map rP).length=_;omega),trivial⟩)
 have g:¬ (i:Int)<((L.map rQ).length:Int):=g;obtain rfl:i=L.length:=Oo
 rw[List.take_length];refine bv (λ_=>100) (λ_=>0) (IE L.flatten.length h1) ?_;refine az τok (σ:=Nat) [(25,_),(26,_)] [] (λi=>[(27,vI i),(6,.c (.row 100))]) (λi=>[(100,.rw 29 1 ((L.take i).flatten.map rP))]) (λi=>i<=L.length) (λi=>L.length-i) 0 (KV _) ?_;intro i h;have j:=mE L i;refine aj τok<|ae (λg=>?_) (λg=>?_)
 ·have g:(i:Int)<((L.map rQ).length:Int):=g
  obtain⟨x,b,_⟩:=ay (l:=L) (k:=i);have o:=sW b;have d:=mE L (i+1);refine vm (p:=rQ) i b ?_;refine va ?_ (iW x) (hb:=by rw[List.length_map];omega);refine vi ?_;exact au (i+1) (show i+1<=_ by omega) (f:=λk=>sw 100 33 k) (y':=⟨congrArg (λl=>some (SE.rw _ _ l)) (by show _++_=((L.take (i+1)).flatten).map rP;rw[List.take_add_one,b];simp),trivial⟩)
 have g:¬ (i:Int)<((L.map rQ).length:Int):=g;obtain rfl:i=L.length:=Oo
 rw[List.take_length];exact⟨100,rfl,rfl⟩
theorem IG{ys zs:List Tr}{L M:List (List PV)}(b:L=(ys.map row).map rP)(d:M=(zs.map row).map rP)(i:∀y∈ys,Ft Q N y)(j:∀y∈zs,Ft Q N y)(hl:ys.length<=5000)(e:zs.length<=5000):VC prog 233 [.sl [[.sl L],[.sl M]]] (bw ((ys++zs).map row)):=by
 have h:=IF (L:=[ys.map row,zs.map row]) Od OK;rw[show [ys.map row,zs.map row].flatten=(ys++zs).map row by simp]at h;rw[b,d];exact h
theorem IH(E:Qk Q)(s:Ft Q N x)(l:x.n.op=12)(Y:0<=N)(Z:N<=90000):VX prog 234 [ah (row x)] (match kk x with
  | .ok z=>.ok (ah (row z))
  | .error e=>.error (ew e)):=by
 have w:=aB s;have hl:=dM s.ok l;have hk:=fK s.ok l;generalize h:kk x=o;unfold kk at h;have F:kb x.n (2*x.n.a.toNat+1)=x.n.b:=by
  unfold kb;rw[if_pos l,if_pos Oo]
 have T:=s.kidN (2*x.n.a.toNat+1) Oo F;obtain⟨L,H⟩:∃k,x.n.b.toNat=k:=⟨_,rfl⟩
 rw[H]at h;refine nB 45 [.tmp 2] τok func234 ?_;refine aj τok<|vm (p:=ndP) 0 (aJ w) ?_;refine af (hY s) ?_;refine vm (p:=ndP) 0 (aJ w) ?_;refine vi ?_;refine vi ?_;refine vm (p:=rP) (2*x.n.a.toNat+1) (aF w) ?_;refine vk ?_;refine vi ?_;refine az τok (σ:=Nat×Tr) [(0,_)] [] (λq=>[(4,vP (ah (row q.2))),(5,vI ((q.1:Int)-1))]) (λ_=>[]) (λq=>q.1<=L/\Ft Q (N+q.1) q.2/\jh x q.1 q.2=o) (λq=>q.1) (L,kidD x (2*x.n.a.toNat+1)) ⟨KJ _,T.mono Oo,h⟩ ?_ (x1:=⟨rfl,congrArg (λn:Int=>some (vI n)) OS,trivial⟩)
 clear h
 rintro⟨i,b⟩ ⟨V,I,d⟩;simp only at V I d;refine aj τok<|ae (λg=>?_) (λg=>?_)
 ·have g:(i:Int)-1≥0:=g
  obtain⟨j,rfl⟩:∃j,i=j+1:=⟨i-1,Oo⟩
  have W:((j+1:Nat):Int)-1=(j:Int):=Oo
  rw[W];have O:=s.fixAt E l (i:=(j:Int)) Oo Oo;have R:=O.lift E (b:=(j:Int)) Oo Oo Oo;have X:(((row x).map ndP).set 0 [pI x.n.op,pI j,pI x.n.b])=(row (fixAt x j)).map ndP:=by
   cases x
   rfl
  have K:=kt O Oo (b:=(j:Int)) Oo;have C:VC prog 84 [.sl (((row x).map ndP).set 0 [pI x.n.op,pI j,pI x.n.b]),pI j,pI 0] (.tup [ah (row (aH (fixAt x j) j 0)),pI 0]):=by
   rw[X];exact K
  have r:=nN (x:=b) (u:=aH (fixAt x j) j 0) (v:=0) (N:=N+j) (I.mono Oo) R Oo Oo;simp only[jh]at d;refine eV (ID s) ?_;refine vm (p:=ndP) 0 (aJ w) ?_;refine dG (aJ w)<|af C ?_;refine af (eN _) ?_;cases D:bk b (aH (fixAt x j) j 0) 0 with
  |error e=>
   have he:=iB D;rw[D]at r d;have d:.error e=o:=d;subst d;refine af r ?_;refine bO (iX _ (show e≠0 by omega)) ?_;exact rfl
  |ok z=>
   rw[D]at r d;have d:jh x j z=o:=d;refine af r ?_;refine af (eN _) ?_;refine vi ?_;exact au (j,z) ⟨OS,(iy E (N:=N+j) (I.mono Oo) R Oo Oo (Int.le_refl 0) OO D).mono Oo,d⟩
 ·have g:¬ (i:Int)-1≥0:=g
  obtain rfl:i=0:=Oo
  have d:.ok b=o:=d;subst d;exact eA9
end
def CR(B:aq)(cx:Ctx)(n:Int)(r:Except Int Tr):Except (List PanicEntry) (List PV×PV):=match r with
 | .ok z=>.ok (ia B cx n,fC z)
 | .error e=>.error (ew e)
section
variable{B:aq}{cx:Ctx}{x:Tr}{fu:Int}
theorem xA(l:List (List Nd)):∀z∈l.map rP,z.length=1:=λz b=>by
 obtain⟨_,_,rfl⟩:=List.mem_map.1 b
 rfl
theorem xB(hB:GoodB B)(a4:CxOk B cx)(a':cx.length<=90000)(hx:Ft (QB B) (cx.length:Int) x)(hr:cf B cx x=true):iQ prog 209 250 (ia B cx fu) [fC x] (CR B cx fu (gf B cx x)):=by
 have D:=qk B;have w:=hx.head;have wh:=aB w;have K:=hx.args;have hn:=hx.nargs;have b0:=hx.len;have b1:=w.len;have e1:=ak (λt=>[ah t]) ((argsT x).map row);have e2:=ak row (argsT x);have eC:=ak bdP (cx.map aA);have b2:=ak aA cx;have hq:=w.node';have a1:=λ(h1:(headT x).n.op=1)=>s5 w h1;generalize d:gf B cx x=j;unfold gf at d;unfold cf at hr;simp only at d hr;refine aX (r:=CR B cx fu j) 149 [.cell 4 219] τok func209 ?_;refine aj τok ?_;unfold fC
 generalize b3:headT x=h at *
 generalize b4:argsT x=l at *
 have e3:=ak ndP (row h);refine vm (p:=ndP) 0 (aJ wh) ?_;refine ae (λO=>?_) (λO=>?_)
 ·have O:h.n.op=5:=O
  rw[if_pos O]at d hr;obtain⟨k2,f0,f1⟩:=dU w (.inr O);obtain⟨r1,r2,r3⟩:=nL w.ok (.inr O);have hr:=of_decide_eq_true hr;obtain⟨y,E,_⟩:=ay (l:=l) (k:=0);rw[List.getD_eq_getElem?_getD,E]at d;have a2:=JQ E;have d:(bk (kidD h 1) y 0).bind (λs=>aK s (l.drop 1))=j:=d;have R:=nN (x:=kidD h 1) (u:=y) (v:=0) (N:=(cx.length:Int)) (f1.mono Oo) (K y a2) Oo Oo;refine af (endP w (a:=[h.n]) (y:=kidD h 0) (q:=row (kidD h 1)) (r1) f0.ok rfl) ?_;have X:=congrArg List.length r2;simp only[JK,JV]at X;refine bC (1+(row (kidD h 0)).length) (row h).length ?_ (cS _) (h1:=rfl) (h3:=Oo) (h4:=Oo);rw[du (a:=h.n::row (kidD h 0)) (y:=kidD h 1) (q:=[]) (by rw[JD];exact r2) (by rw[JV];omega) (by rw[JV];omega)];refine vk ?_;refine vm (p:=rP) 0 (x:=row y) (by rw[JX,E];rfl) ?_;cases T:bk (kidD h 1) y 0 with
  |error e=>
   have he:=iB T;rw[T]at R d;have d:.error e=j:=d;subst d;refine af R ?_;refine bO (iX _ (show e≠0 by omega)) ?_;refine qd [false,false,false,true,true] ?_;refine bC 1 l.length ?_ (xA _);refine vk ?_;exact rfl
  |ok u=>
  rw[T]at R d;refine af R ?_;refine af (eN _) ?_;have d:aK u (l.drop 1)=j:=d;have F:=iy D (f1.mono Oo) (K y a2) Oo Oo (Int.le_refl 0) OO T;have o:=oS D (x:=u) (ys:=l.drop 1) F (λy E=>(K y (List.mem_of_mem_drop E)).mono Oo) OK;have a5:VX prog 232 [ah (row u),.sl ((((l.map row).map rP).take l.length).drop 1)] (match aK u (l.drop 1)with
   | .ok z=>.ok (fC z)
   | .error e=>.error (ew e)):=by
   rw[JG Od,<- List.map_drop,<- List.map_drop];exact o
  replace o:=a5
  refine bC 1 l.length ?_ (xA _);cases C:aK u (l.drop 1)with
  |error e=>
   rw[C]at o d;have d:.error e=j:=d;subst d;refine bO o ?_;refine fY ?_;refine vk ?_;exact rfl
  |ok z=>
   rw[C]at o d;have d:.ok z=j:=d;subst d;refine af o ?_;exact kP9
 have O:¬ h.n.op=5:=O;rw[if_neg O]at d hr;refine ae (λV=>?_) (λV=>?_)
 ·have V:h.n.op=7:=V
  rw[if_pos V]at d;obtain⟨k3,f0,f1,f2⟩:=nM w V;obtain⟨_,_,_,r1,r2,r3⟩:=oQ w.ok V;have X:=congrArg List.length r3;simp only[JK,JV]at X;have d:(bk (kidD h 2) (kidD h 1) 0).bind (λs=>aK s l)=j:=d;have R:=nN (x:=kidD h 2) (u:=kidD h 1) (v:=0) (N:=(cx.length:Int)) (f2.mono Oo) f1 Oo Oo;refine af (endP w (a:=[h.n]) (y:=kidD h 0) (q:=row (kidD h 1)++row (kidD h 2)) r1 f0.ok rfl) ?_;refine af (endP w (a:=h.n::row (kidD h 0)) (y:=kidD h 1) (q:=row (kidD h 2)) r2 f1.ok OK) ?_;refine bC ((h.n::row (kidD h 0)).length+(row (kidD h 1)).length) (row h).length ?_ (cS _) (h1:=rfl) (h3:=by rw[JV];omega) (h4:=Oo);rw[du (a:=h.n::(row (kidD h 0)++row (kidD h 1))) (y:=kidD h 2) (q:=[]) (by rw[JD];exact r3) (by rw[JV,JV,JK];omega) (by rw[JV,JK];omega)];refine bC (1+(row (kidD h 0)).length) ((h.n::row (kidD h 0)).length+(row (kidD h 1)).length) ?_ (cS _) (h1:=rfl) (h3:=by rw[JV];omega) (h4:=by rw[JV];omega);rw[du r2 (by rw[JV];omega) rfl];cases T:bk (kidD h 2) (kidD h 1) 0 with
  |error e=>
   have he:=iB T;rw[T]at R d;have d:.error e=j:=d;subst d;refine af R ?_;refine bO (iX _ (show e≠0 by omega)) ?_;refine qd [false,false,true,true] ?_
   skip
   refine vk ?_;exact rfl
  |ok u=>
  rw[T]at R d;refine af R ?_;refine af (eN _) ?_;have d:aK u l=j:=d;have F:=iy D (f2.mono Oo) f1 Oo Oo (Int.le_refl 0) OO T;have o:=oS D (x:=u) (ys:=l) F (λy E=>(K y E).mono Oo) Oo;cases C:aK u l with
  |error e=>
   rw[C]at o d;have d:.error e=j:=d;subst d;refine bO o ?_;refine fY ?_;refine vk ?_;exact rfl
  |ok z=>
   rw[C]at o d;have d:.ok z=j:=d;subst d;refine af o ?_;exact kP9
 have V:¬ h.n.op=7:=V;rw[if_neg V]at d;refine ae (λI=>?_) (λI=>?_)
 ·have I:h.n.op=1:=I
  rw[if_pos I]at d;rw[if_neg Oo,if_pos I]at hr;obtain⟨n0,n1⟩:=a1 I;have Y:=mA n0 n1;obtain⟨⟨ty,vv⟩,a6⟩:∃q,eZ cx h.n.a=q:=⟨_,rfl⟩
  rw[a6]at Y d hr;have a7:(cx.map aA)[cx.length-1-h.n.a.toNat]?=some (row ty,nS' vv):=by rw[JX,Y];rfl
  cases vv with
  |none=>cases hr
  |some v=>
   have fv:=(a4 _ _ Y).2 v rfl;have fl:=fv.lift D (b:=h.n.a+1) Oo Oo Oo;have d:aK (aH v (h.n.a+1) 0) l=j:=d;have o:=oS D (x:=aH v (h.n.a+1) 0) (ys:=l) (N:=(cx.length:Int)) (fl.mono Oo) K Oo;refine vi ?_;refine vi ?_;refine vm (p:=bdP) (cx.length-1-h.n.a.toNat) a7 ?_ Oo;refine vi ?_;refine af (kt fv Oo Oo) ?_;refine af (eN _) ?_;cases C:aK (aH v (h.n.a+1) 0) l with
   |error e=>
    rw[C]at o d;have d:.error e=j:=d;subst d;refine bO o ?_;refine fY ?_;refine vk ?_;exact rfl
   |ok z=>
    rw[C]at o d;have d:.ok z=j:=d;subst d;refine af o ?_;exact kP9
 have I:¬ h.n.op=1:=I;rw[if_neg I]at d;refine ae (λW=>?_) (λW=>?_)
 ·have W:h.n.op=8:=W
  rw[if_pos W]at d;obtain⟨i,e,ty,bo,hi,he,Z,hD⟩:=hB.dfn hq W;rw[Z,hD.body,gW hD.fb.ok]at d;have fb:Ft (QB B) (cx.length:Int) bo:=(hD.fb.wk λm hm=>nK (Nat.le_of_lt (aI he)) hm).mono Oo;have o:=oS D (x:=bo) (ys:=l) fb K Oo;rw[<- hD.body]at o;refine vm (p:=aQ) i he ?_;cases C:aK bo l with
  |error e=>
   rw[C]at o d;have d:.error e=j:=d;subst d;refine bO o ?_;refine fY ?_;refine vk ?_;exact rfl
  |ok z=>
   rw[C]at o d;have d:.ok z=j:=d;subst d;refine af o ?_;exact kP9
 have W:¬ h.n.op=8:=W;rw[if_neg W]at d;rw[if_neg Oo,if_neg I]at hr;refine ae (λH=>?_) (λH=>?_)
 ·have H:h.n.op=11:=H
  rw[if_pos H]at d hr;obtain⟨hk,b5,_,_⟩:=gd w.ok H;have fk:=w.kidN 1 (by rw[hk];omega) (b:=0) (by simp[kb,aY,H]);rw[Int.add_zero]at fk;obtain⟨c1,c2,c3,c4,c5⟩:=Cp hB fk hr;obtain⟨i,e,s',ps,qi,hi,b6,he,Z,hF⟩:=hB.fam (jK hq (.inr H)) (KJ _);have a8:eH B h.n.a=e.params.length:=by unfold eH;rw[Z]
  have e4:=ak (λt=>[ah t]) e.params;have b7:=fk.nargs;have b8:=fk.len;have fb:=w.kidN (2+(headT (kidD h 1)).n.b.toNat) (by rw[hk];omega) (b:=0) (by simp[kb,aY,H]);rw[Int.add_zero]at fb;have eL:=ak rP ((argsT (kidD h 1)).map row);have b9:=ak (λt=>[ah t]) ((argsT (kidD h 1)).map row);have b':=ak row (argsT (kidD h 1));have a3:∀y∈(argsT (kidD h 1)).drop e.params.length,Ft (QB B) (cx.length:Int) y:=λy E=>fk.args y (List.mem_of_mem_drop E);rw[a8]at d c5;have a9:=IG (L:=(((argsT (kidD h 1)).map row).map rP|>.take (argsT (kidD h 1)).length).drop e.params.length) (M:=(l.map row).map rP) (ys:=(argsT (kidD h 1)).drop e.params.length) (zs:=l) (by rw[JG Oo,<- List.map_drop,<- List.map_drop]) rfl a3 K OK Oo;have o:=oS D (x:=kidD h (2+(headT (kidD h 1)).n.b.toNat)) (ys:=(argsT (kidD h 1)).drop e.params.length++l) fb (λy E=>(List.mem_append.1 E).elim (a3 y) (K y)) OK;refine af (hY w) ?_;refine vm (p:=rP) 1 (aF wh (by rw[hk];omega)) ?_;refine af (oR fk) ?_;refine vm (p:=ndP) 0 (aJ (aB fk.head)) ?_;refine vi ?_;refine vm (p:=rP) (2+(headT (kidD h 1)).n.b.toNat) (aF wh (by rw[hk];omega)) ?_;refine vm (p:=aQ) i he ?_;refine bC e.params.length (argsT (kidD h 1)).length ?_ (xA _);refine af a9 ?_;cases C:aK (kidD h (2+(headT (kidD h 1)).n.b.toNat)) ((argsT (kidD h 1)).drop e.params.length++l)with
  |error e=>
   rw[C]at o d;have d:.error e=j:=d;subst d;refine bO o ?_;refine fY ?_;refine vk ?_;exact rfl
  |ok z=>
   rw[C]at o d;have d:.ok z=j:=d;subst d;refine af o ?_;exact kP9
 have H:¬ h.n.op=11:=H;rw[if_neg H]at d hr;have g6:h.n.op=12:=by
  by_cases g6:h.n.op=12
  ·exact g6
  ·rw[if_neg g6]at hr
   cases hr
 have hu:=IH D w g6 Oo Oo;cases a0:kk h with
 |error e=>
  rw[a0]at hu d;have d:.error e=j:=d;subst d;refine bO hu ?_;refine qd [false,false,true,true] ?_;refine vk ?_;exact rfl
 |ok u=>
  rw[a0]at hu d;have d:aK u l=j:=d;have F:=xf D w g6 Oo Oo a0;have o:=oS D (x:=u) (ys:=l) F K Oo;refine af hu ?_;cases C:aK u l with
  |error e=>
   rw[C]at o d;have d:.error e=j:=d;subst d;refine bO o ?_;refine fY ?_;refine vk ?_;exact rfl
  |ok z=>
   rw[C]at o d;have d:.ok z=j:=d;subst d;refine af o ?_;exact kP9
end
def CS(B:aq)(cx:Ctx)(r:Except Int (Tr×Nat)):Except (List PanicEntry) (List PV×PV):=match r with
 | .ok q=>.ok (ia B cx q.2,fC q.1)
 | .error e=>.error (ew e)
section
variable{B:aq}{cx:Ctx}
theorem II(I:GoodB B)(s:CxOk B cx)(w:cx.length<=90000):∀(G:Nat) (x:Tr) (room:Int) (n:Nat),Ft (QB B) (cx.length:Int) x ->len x<=room ->room<=4096 ->n<=1000000 ->n*5000+(row x).length<=G ->
  iQ prog 182 250 (ia B cx n) [fC x,pI room] (CS B cx (bY B cx G x room n)):=by
 intro G
 induction G using Nat.strongRecOn with
 |_ G ih=>
 intro x room n hx hl hr hn hG;generalize i:bY B cx G x room n=h;refine aX (r:=CS B cx h) 53 [.cell 6 219] τok func182 ?_;refine aj τok<|az τok (σ:=Nat×Tr×Nat) [(0,_),(2,_),(4,_),(6,_)] [(6,_)] (λ_=>[]) (λq=>[(0,.st 1 250 ((ia B cx q.2.2).map .p)),(4,.st 0 219 [.p (ah (row (headT q.2.1))),.p (bw ((argsT q.2.1).map row))])]) (λq=>q.1<=G/\q.2.2*5000+(row q.2.1).length<=q.1/\q.2.2<=n/\bY B cx q.1 q.2.1 room q.2.2=h/\Ft (QB B) (cx.length:Int) q.2.1/\len q.2.1<=room) (λq=>q.1) (G,x,n) ⟨KJ _,hG,KJ _,i,hx,hl⟩ ?_
 clear i
 rintro⟨g,y,m⟩ ⟨T,V,W,b,l,C⟩;simp only at T V W b l C;have a3:=aS y;obtain⟨D,rfl⟩:∃D,g=D+1:=⟨g-1,Oo⟩
 simp only[bY]at b;refine VCode.blk<|dB τok (σ:=Tr×Nat) [(0,_),(2,_),(4,_),(6,_)] [(6,_)] (λ_=>[]) (λq=>[(0,.st 1 250 ((ia B cx q.2).map .p)),(4,.st 0 219 [.p (ah (row (headT q.1))),.p (bw ((argsT q.1).map row))])]) (λq=>gZ B cx (bY B cx D) room q=h/\q.2<=m/\Ft (QB B) (cx.length:Int) q.1/\len q.1<=room) ?_ ?_
 ·have hP:=Iy l
  cases o:cg y with
  |none=>
   simp only[gY,o]at b;rw[o]at hP;refine af hP ?_;exact au (y,m) ⟨b,KJ _,l,C⟩
  |some p=>
   simp only[gY,o]at b;rw[o]at hP;obtain⟨E,a4⟩:=jL l o;have eP:=ak ndP (row p);have F:=C;unfold len at F;have K:=ih D Oo p (room-len y+len p) m E (by unfold len;omega) (by unfold len;omega) Oo Oo;refine af hP ?_;refine af (oR E) ?_;refine af (CQ l) ?_;refine vi ?_ (by simp only[len];omega) (by simp only[len];omega);refine vi ?_ (by simp only[len];omega) (by simp only[len];omega);have eR:room-len y+((((row p).map ndP).length:Nat):Int)=room-len y+len p:=by unfold len;omega
   rw[eR];cases X:bY B cx D p (room-len y+len p) m with
   |error e=>
    rw[X]at K b;have b:.error e=h:=b;subst b;refine cD K ?_;refine fY ?_;refine vk ?_;exact rfl
   |ok q=>
    obtain⟨q1,q2⟩:=q;rw[X]at K b;obtain⟨Y,l1,l2⟩:=oH I s w D p _ m q1 q2 E (by unfold len;omega) (by unfold len;omega) X;have a5:=qx (p:=q1) l o;unfold len at l1;have H:(row (bJ y q1)).length<=4096:=Oo
    have Z:=(xg (qk B) l Y o H).1;refine ax K ?_;refine af (CP Y) ?_;refine af (IA (qk B) l Y o H) ?_;refine vk ?_;exact au (bJ y q1,q2) ⟨b,l2,Z,by simp only[len];omega⟩
 ·rintro⟨z,k⟩ ⟨b,a0,L,a1⟩
  simp only at b a0 L a1;have O:=IC (fu:=(k:Int)) I Oo L;unfold gZ at b;simp only at b;refine aj τok ?_;cases d:cf B cx z with
  |false=>
   rw[d,if_neg OO]at b;rw[d]at O;subst b;refine ax O ?_;exact eP9
  |true=>
   rw[d,if_pos rfl]at b;rw[d]at O;refine ax O ?_;refine ae (λg=>?_) (λg=>?_)
   ·have g:(k:Int)=0:=g
    rw[if_pos Oo]at b;subst b;exact qn (Cg _)<|rfl
   ·have g:¬ (k:Int)=0:=g
    rw[if_neg Oo]at b;have R:=xB (fu:=(k:Int)) I s w L d;cases ho:gf B cx z with
    |error e=>
     rw[ho]at R b;have b:.error e=h:=b;subst b;refine cD R ?_;exact rfl
    |ok v=>
     rw[ho]at R b;have fv:=sR I s w L d ho;have hW:=Ix fv room;refine ax R ?_
     by_cases hb:room<len v
     ·simp only[if_pos hb]at b hW
      subst b;refine bO hW ?_;exact rfl
     ·simp only[if_neg hb]at b hW
      obtain⟨j,rfl⟩:∃j,k=j+1:=⟨k-1,Oo⟩
      rw[Nat.add_sub_cancel]at b;have a2:len v<=room:=Oo
      unfold len at a2;refine af hW ?_;refine vi ?_;exact au (D,v,j) ⟨OS,OS,OS,b,fv,OS⟩ (y':=⟨congrArg (λn:Int=>some (SE.st 1 _ ((ia B cx n).map .p))) OS,rfl,trivial⟩)
end
def bE(f:Int):Nat:=(min (max f 0) 100000).toNat
@[irreducible] def GW:Nat:=600000000
theorem CS':600000000<=GW:=by unfold GW;exact KJ _
def dC(B:aq)(cx:Ctx)(x:Tr)(fuel:Int):Except Int (Tr×Nat):=bY B cx GW x 4096 (bE fuel)
section
variable{B:aq}{cx:Ctx}
theorem CT{x:Tr}{er:Int}(h:gf B cx x= .error er):er=9:=by
 have j:∀{b u:Tr} {v e:Int},bk b u v= .error e ->e=9:=λ{b u v e} h=>by
  unfold bk at h;split at h
  ·injection h with h;exact h.symm
  ·cases h
 have d:∀{b:Tr} {l:List Tr} {e:Int},aK b l= .error e ->e=9:=λ{b l e} h=>by
  unfold aK at h;split at h
  ·injection h with h;exact h.symm
  ·cases h
 have k:∀{m:Except Int Tr} {l:List Tr} {e:Int},(∀e,m= .error e ->e=9) ->(m.bind λs=>aK s l)= .error e ->e=9:=λ{m l e} q h=>by
  cases m with
  |error r=>injection h with h;rw[<- h];exact q _ rfl
  |ok s=>exact d h
 have w:∀(f:Tr) (i:Nat) (b:Tr) (e:Int),jh f i b= .error e ->e=9:=by
  intro f i
  induction i with
  |zero=>intro b e h;cases h
  |succ i z=>
   intro b e h;simp only[jh]at h;cases o:bk b (aH (fixAt f i) i 0) 0 with
   |error r=>rw[o]at h;injection h with h;rw[<- h];exact j o
   |ok s=>rw[o]at h;exact z _ _ h
 unfold gf at h;simp only at h;split at h
 ·exact k (λe=>j) h
 split at h
 ·exact k (λe=>j) h
 split at h
 ·exact d h
 split at h
 ·exact d h
 split at h
 ·exact d h
 ·exact k (λe=>w _ _ _ _) h
theorem whnf_er:∀(g:Nat) (x:Tr) (room:Int) (n:Nat) (er:Int),bY B cx g x room n= .error er ->er=9 \/er=10
 |0,x,room,n,er,h=>by injection h with h;exact .inr h.symm
 |g+1,x,room,n,er,h=>by
  simp only[bY]at h;have d:∀q,gZ B cx (bY B cx g) room q= .error er ->er=9 \/er=10:=λq h=>by
   unfold gZ at h;split at h
   ·split at h
    ·injection h with h;exact .inr h.symm
    ·cases i:gf B cx q.1 with
     |error e=>rw[i]at h;injection h with h;rw[<- h];exact .inl (CT i)
     |ok z=>
      rw[i]at h;simp only at h;split at h
      ·injection h with h;exact .inl h.symm
      ·exact whnf_er g _ _ _ _ h
   ·cases h
  cases b:gY (bY B cx g) x room n with
  |error e=>
   rw[b]at h;injection h with h
   subst h;unfold gY at b;split at b
   ·cases b
   ·split at b
    ·rename_i j
     injection b with b
     subst b;exact whnf_er g _ _ _ _ j
    ·cases b
  |ok q=>rw[b]at h;exact d q h
def CU(X:List Nat)(w:World)(r:Except Int (Tr×Nat))(e:Ending)(w':World):Prop:=
 (match r with
  | .ok q=>∃u,e= .returned (.tuple #[u,.int .i64 (q.2:Int),.int .i64 0])/\TmV (Im X w') q.1 u
  | .error er=>e= .returned (.tuple #[.slice none 0 0,.int .i64 0,.int .i64 er]))/\Kp [] w w'
end
end Go.Proofs.YtjnjbghlemiklaaGreat
namespace Go.Proofs.YtjnjbghlemiklaaGreat
open Go.Shelf Go.RowKit Go.Maps Go.Sort Go.Wx
def mP':Go.Shelf.Ren:=⟨λ|7=>145|10=>179|n=>n,λ|23=>182|26=>3|3=>3|28=>187|0=>0|27=>186|33=>83|4=>4|n=>n,λ|n=>n⟩
theorem CT':Go.Proofs.SlLaysZI.n7 prog mP':={
 mixed:=OD
 f7:=⟨Tryz.f145.name,OO,Tryz.func145.trans (congrArg some OD)⟩
 f10:=⟨Tryz.f179.name,OO,Tryz.func179.trans (congrArg some OD)⟩
 t0:=underlying0
 a0:=Tryz.isAgg0
 z0:=Tryz.sizeOf0
 v0:=Tryz.zeroValue0
 t4:=underlying4
 a4:=Tryz.isAgg4
 z4:=Tryz.sizeOf4
 v4:=Tryz.zeroValue4
 t23:=underlying182
 a23:=Tryz.isAgg182
 z23:=Tryz.sizeOf182
 v23:=Tryz.zeroValue182
 t26:=underlying3
 a26:=Tryz.isAgg3
 z26:=Tryz.sizeOf3
 v26:=Tryz.zeroValue3
 t27:=underlying186
 a27:=Tryz.isAgg186
 z27:=Tryz.sizeOf186
 v27:=Tryz.zeroValue186
 t28:=underlying187
 a28:=Tryz.isAgg187
 z28:=Tryz.sizeOf187
 v28:=Tryz.zeroValue187
 t33:=underlying83
 a33:=Tryz.isAgg83
 z33:=Tryz.sizeOf83
 v33:=Tryz.zeroValue83}
def jN':Go.Shelf.Ren:=⟨λ|6=>144|8=>177|9=>178|11=>201|13=>203|12=>202|23=>228|24=>229|14=>219|15=>220|16=>221|17=>222|18=>223|19=>224|20=>225|21=>226|22=>227|25=>242|26=>243|27=>244|28=>245|29=>246|30=>247|31=>255|n=>n,λ|26=>3|28=>187|24=>156|0=>0|3=>3|37=>248|48=>268|50=>270|4=>4|40=>262|39=>261|45=>184|5=>5|9=>9|51=>278|55=>282|57=>288|58=>147|33=>83|n=>n,λ|n=>n⟩
theorem zO':Go.Proofs.SlLaysZI.n6 prog jN':={
 mixed:=OD
 f6:=⟨Tryz.f144.name,OO,Tryz.func144.trans (congrArg some OD)⟩
 f8:=⟨Tryz.f177.name,OO,Tryz.func177.trans (congrArg some OD)⟩
 f11:=⟨Tryz.f201.name,OO,Tryz.func201.trans (congrArg some OD)⟩
 t0:=underlying0
 a0:=Tryz.isAgg0
 z0:=Tryz.sizeOf0
 v0:=Tryz.zeroValue0
 t24:=underlying156
 a24:=Tryz.isAgg156
 z24:=Tryz.sizeOf156
 v24:=Tryz.zeroValue156
 t26:=underlying3
 a26:=Tryz.isAgg3
 z26:=Tryz.sizeOf3
 v26:=Tryz.zeroValue3
 t28:=underlying187
 a28:=Tryz.isAgg187
 z28:=Tryz.sizeOf187
 v28:=Tryz.zeroValue187
 i26:=by kernel_rfl}
def tu':Go.Shelf.Ren:=⟨λ|5=>178|8=>203|7=>202|19=>228|20=>229|10=>219|11=>220|12=>221|13=>222|14=>223|15=>224|16=>225|17=>226|18=>227|30=>242|31=>243|32=>244|33=>245|34=>246|35=>247|40=>255|n=>n,λ|23=>156|25=>3|3=>3|32=>248|22=>156|0=>0|44=>268|46=>270|4=>4|36=>262|35=>261|41=>184|5=>5|9=>9|53=>278|57=>282|63=>288|64=>147|n=>n,λ|n=>n⟩
theorem CU':Go.Proofs.SlLaysM.n5 prog tu':={
 mixed:=OD
 f5:=⟨Tryz.f178.name,OO,Tryz.func178.trans (congrArg some OD)⟩
 f7:=⟨Tryz.f202.name,OO,Tryz.func202.trans (congrArg some OD)⟩
 f8:=Tryz.func203.trans (congrArg some OD)
 f10:=⟨Tryz.f219.name,OO,Tryz.func219.trans (congrArg some OD)⟩
 f11:=⟨Tryz.f220.name,OO,Tryz.func220.trans (congrArg some OD)⟩
 f12:=⟨Tryz.f221.name,OO,Tryz.func221.trans (congrArg some OD)⟩
 f13:=⟨Tryz.f222.name,OO,Tryz.func222.trans (congrArg some OD)⟩
 f14:=⟨Tryz.f223.name,OO,Tryz.func223.trans (congrArg some OD)⟩
 f15:=⟨Tryz.f224.name,OO,Tryz.func224.trans (congrArg some OD)⟩
 f16:=⟨Tryz.f225.name,OO,Tryz.func225.trans (congrArg some OD)⟩
 f17:=⟨Tryz.f226.name,OO,Tryz.func226.trans (congrArg some OD)⟩
 f18:=⟨Tryz.f227.name,OO,Tryz.func227.trans (congrArg some OD)⟩
 f19:=Tryz.func228.trans (congrArg some OD)
 f20:=Tryz.func229.trans (congrArg some OD)
 f30:=⟨Tryz.f242.name,OO,Tryz.func242.trans (congrArg some OD)⟩
 f31:=Tryz.func243.trans (congrArg some OD)
 f32:=Tryz.func244.trans (congrArg some OD)
 f33:=⟨Tryz.f245.name,OO,Tryz.func245.trans (congrArg some OD)⟩
 f34:=⟨Tryz.f246.name,OO,Tryz.func246.trans (congrArg some OD)⟩
 f35:=⟨Tryz.f247.name,OO,Tryz.func247.trans (congrArg some OD)⟩
 f40:=⟨Tryz.f255.name,OO,Tryz.func255.trans (congrArg some OD)⟩
 t0:=underlying0
 a0:=Tryz.isAgg0
 z0:=Tryz.sizeOf0
 v0:=Tryz.zeroValue0
 t3:=underlying3
 a3:=Tryz.isAgg3
 z3:=Tryz.sizeOf3
 v3:=Tryz.zeroValue3
 t4:=underlying4
 a4:=Tryz.isAgg4
 z4:=Tryz.sizeOf4
 v4:=Tryz.zeroValue4
 t5:=underlying5
 a5:=Tryz.isAgg5
 z5:=Tryz.sizeOf5
 v5:=Tryz.zeroValue5
 t9:=underlying9
 a9:=Tryz.isAgg9
 z9:=Tryz.sizeOf9
 v9:=Tryz.zeroValue9
 t22:=underlying156
 a22:=Tryz.isAgg156
 z22:=Tryz.sizeOf156
 v22:=Tryz.zeroValue156
 t23:=underlying156
 a23:=Tryz.isAgg156
 z23:=Tryz.sizeOf156
 v23:=Tryz.zeroValue156
 t25:=underlying3
 a25:=Tryz.isAgg3
 z25:=Tryz.sizeOf3
 v25:=Tryz.zeroValue3
 t32:=underlying248
 a32:=Tryz.isAgg248
 z32:=Tryz.sizeOf248
 v32:=Tryz.zeroValue248
 t35:=underlying261
 a35:=Tryz.isAgg261
 z35:=Tryz.sizeOf261
 v35:=Tryz.zeroValue261
 t36:=underlying262
 a36:=Tryz.isAgg262
 z36:=Tryz.sizeOf262
 v36:=Tryz.zeroValue262
 t41:=underlying184
 a41:=Tryz.isAgg184
 z41:=Tryz.sizeOf184
 v41:=Tryz.zeroValue184
 t44:=underlying268
 a44:=Tryz.isAgg268
 z44:=Tryz.sizeOf268
 v44:=Tryz.zeroValue268
 t46:=underlying270
 a46:=Tryz.isAgg270
 z46:=Tryz.sizeOf270
 v46:=Tryz.zeroValue270
 t53:=underlying278
 a53:=Tryz.isAgg278
 z53:=Tryz.sizeOf278
 v53:=Tryz.zeroValue278
 t57:=underlying282
 a57:=Tryz.isAgg282
 z57:=Tryz.sizeOf282
 v57:=Tryz.zeroValue282
 t63:=underlying288
 a63:=Tryz.isAgg288
 z63:=Tryz.sizeOf288
 v63:=Tryz.zeroValue288
 t64:=underlying147
 a64:=Tryz.isAgg147
 z64:=Tryz.sizeOf147
 v64:=Tryz.zeroValue147}
theorem IJ(m:Nat):AnyZI.SortsIn prog jN' Fence.wide m:=
 ⟨λblk e b i W j d h=>callsIn_wide.2 (AnyM.slices_Sort_int CU' blk e b i W j d h),
 λp b W=>callsIn_wide.2 (AnyM.slices_Sort_int_none CU' p b W)⟩
theorem IK{w w':World}(h:Below w.heap.size w w'):Kp [] w w':=⟨h.os,h.tape,h.output,h.size,λb d _=>h.block b d⟩
theorem IL(b:Nat)(w:World):CC 145 #[.map (some b)] w (λe w'=>e= .returned (.func (.func 179) #[] #[.pointer (some ⟨w.heap.size,0,none⟩)])/\w'=w.alloc (.cells #[.map (some b)] 182)):=
 ⟨⟨_,func145,rfl,OO⟩,callsIn_wide.1 (AnyZI.keys_in CT' Fence.wide 5 trivial rfl (some b) w)⟩
theorem IM{H:Type}{b n:Nat}{D:DataW H}{R:Value ->Option (DataW H×List MemPlace)}{w:World}(h:w.ownsMap prog 3 R b n D)(l:Maps.size D<=maxLen)(d:Maps.size D*8<=140737488355328):
  CC 144 #[.func (.func 179) #[] #[.pointer (some ⟨w.heap.size,0,none⟩)]] (w.alloc (.cells #[.map (some b)] 182)) (λe w'=>∃(v:Value) (j:List Int),e= .returned v/\j.Perm (intKeys D)/\
   w'.ownsRow (w.heap.size+1) 3 1 v j.length ((j.mergeSort (λx y=>decide (x<=y))).map (Value.int .i64))/\Kp [] (w.alloc (.cells #[.map (some b)] 182)) w'):=by
 refine oF func144 ?_;have q:=h.lt;have o:SeqGives Fence.wide 2 prog 179 #[.pointer (some ⟨w.heap.size,0,none⟩)] encZ (λj=>j.Perm (intKeys D)) (Maps.size D) (w.alloc (.cells #[.map (some b)] 182)):=
  AnyZI.keys_gives (ρ:=mP') {CT' with} Fence.wide _ trivial rfl Oo w.heap.size b n D _ Od Od (by
   obtain⟨z,k,r,Ft,C,E⟩:=h;exact⟨z,k,(Below.heap_alloc _ _ b q).trans r,Ft,C,E⟩)
 have s:=AnyZI.sorted_in zO' Fence.wide 5 trivial trivial trivial trivial rfl Oo (IJ _) (enters_of func178 OD rfl) 179 #[.pointer (some ⟨w.heap.size,0,none⟩)] trivial (enters_of func179 OD rfl) _ _ l d _ o
 change CallsIn _ _ prog 144 _ _ _ at s
 refine(callsIn_wide.1 s).mono ?_;rintro e w' ⟨v,j,rfl,F,i,_,r⟩;rw[World.size_alloc]at i;exact⟨v,j,rfl,F,i,IK r⟩
end Go.Proofs.YtjnjbghlemiklaaGreat
