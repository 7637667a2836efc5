import Derived.Test.YtmpgcpemnjbgjaaGreatMm27
import Derived.Test.YtmpgcpemnjbgjaaGreatRows
import Derived.ProofKit
import Derived.OpenShut
import Derived.Deep.Slices
import Derived.JoinedCond
import Derived.Carry
set_option linter.unusedVariables false
set_option linter.unusedSimpArgs false
set_option maxRecDepth 100000
namespace Go.Proofs.YtmpgcpemnjbgjaaGreat
open Go.Wx Cd Tm Lv
theorem wF':∀ id x:Nat,1 <= id -> id <= 3 -> x < 8 -> (List.range 8).all (evN id x) = true
 | 0,_,h,_,_=>absurd h (by omega)
 | 1,0,_,_,_=>ev10
 | 1,1,_,_,_=>ev11
 | 1,2,_,_,_=>ev12
 | 1,3,_,_,_=>ev13
 | 1,4,_,_,_=>ev14
 | 1,5,_,_,_=>ev15
 | 1,6,_,_,_=>ev16
 | 1,7,_,_,_=>ev17
 | 1,x + 8,_,_,h=>absurd h (by omega)
 | 2,0,_,_,_=>ev20
 | 2,1,_,_,_=>ev21
 | 2,2,_,_,_=>ev22
 | 2,3,_,_,_=>ev23
 | 2,4,_,_,_=>ev24
 | 2,5,_,_,_=>ev25
 | 2,6,_,_,_=>ev26
 | 2,7,_,_,_=>ev27
 | 2,x + 8,_,_,h=>absurd h (by omega)
 | 3,0,_,_,_=>ev30
 | 3,1,_,_,_=>ev31
 | 3,2,_,_,_=>ev32
 | 3,3,_,_,_=>ev33
 | 3,4,_,_,_=>ev34
 | 3,5,_,_,_=>ev35
 | 3,6,_,_,_=>ev36
 | 3,7,_,_,_=>ev37
 | 3,x + 8,_,_,h=>absurd h (by omega)
 | id + 4,_,_,h,_=>absurd h (by omega)
theorem wG' {id x y:Nat} (h1:1 <= id) (h3:id <= 3) (hx:x < 8) (hy:y < 8):∃ q,gA' (KB 3) 64 [] (la' id x y) (ax' 5000) = .ok q /\ row q.1 = row (cY' (wantN id x y)):=by
 have:=wF' id x h1 h3 hx;rw [List.all_eq_true] at this;have:=this y (List.mem_range.2 hy);unfold evN at this;split at this
 ·rename_i q hq
  exact ⟨q,hq,of_decide_eq_true this⟩
 ·cases this
end Go.Proofs.YtmpgcpemnjbgjaaGreat
namespace Go.Wx
open Go.ChangeShapes Go.WideShapes Go.ChangeAt Go.RowKit
theorem lc' {H:Type} {enc:TypeId × Value -> H} {P:Program} (hl:laidOutB P = true) {W W':World} (hb:Below W.heap.size W W') :
  ∀ (ts:List TypeId) (vs:List Value) (ds:List (DataW H)) (ps:List MemPlace),(ts.all fun t=>P.readableRec t && Nat.blt t P.types.size) = true -> DataW.TrodAll enc P W 0 (fun _=>true) true ts vs ds ps ->
   (∀ x ∈ ps,x.block < W.heap.size) -> ∀ sp:Nat -> Bool,(∀ p ∈ ps,sp p.block = true) -> DataW.TrodAll enc P W' 0 sp true ts vs ds ps
 | [],vs,ds,ps,_,h,_,sp,_=>by
  obtain ⟨rfl,rfl,rfl⟩:=trodAll_nil h
  rfl
 | t :: ts,vs,ds,ps,hts,h,hlt,sp,hsp=>by
  obtain ⟨v,vs',d,ds',p,q,rfl,rfl,rfl,h0,h1⟩:=trodAll_cons h;simp only [List.all_cons,Bool.and_eq_true] at hts;refine ⟨p,q,?_,lc' hl hb ts _ _ _ hts.2 h1 (fun x hx=>hlt x (by simp [hx])) sp (fun x hx=>hsp x (by simp [hx])),rfl⟩;exact WideElems.Trod_stays hl hts.1.1 (by simpa [Nat.blt_eq] using hts.1.2) h0 (fun x hx=>hb.same (hlt x (by simp [hx]))) (fun x hx=>hsp x (by simp [hx]))
theorem qu' {H:Type} {enc:TypeId × Value -> H} {P:Program} {f:Func} {s:ChangeSpec} {apart fresh handsOn:Bool} {W W':World} {args:Array Value} {ds gs:List (DataW H)} {before:List MemPlace} {tb:TypeId}
  (hl:laidOutB P = true) (hts:(f.params.toList.all fun t=>P.readableRec t && Nat.blt t P.types.size) = true) (hrt:f.resultTypes = #[tb]) (hb:P.underlying tb = some .bool)
  (hW:DataW.Whole enc P f.params.toList s.vars apart W args.toList ds gs before) (hs:s.vars = []) (hres:(s.fn H ds).results = [.lit (.bool true)]) (hargs:(s.fn H ds).args = ds) (hvars:(s.fn H ds).vars = [])
  (hk:Kp [] W W'):s.post enc P f apart fresh handsOn false W args (.bool true) W':=by
 have hW':=hW;obtain ⟨p,q,hA,hV,rfl,hfz,hnd⟩:=hW;rw [hs] at hV;obtain ⟨rfl,rfl⟩:=trodVars_none hV;have hbl:=hk.below;have hlt:∀ x ∈ p,x.block < W.heap.size:=fun x hx=>hW'.lt x (by simp [hx]);refine ⟨ds,[],p ++ [],[],p,[],hW',?_,?_,?_,?_,fun h=>by cases h⟩
 ·rw [List.append_nil,hres,hrt]
  exact trodAll_mk1 (shut_bool hb true)
 ·rw [List.append_nil,hargs]
  exact lc' hl hbl _ _ _ _ hts hA hlt _ fun x hx=>by simpa using hlt x hx
 ·rw [List.append_nil,hvars,hs]
  rfl
 ·exact hbl.frame _
end Go.Wx
namespace Go.Proofs.YtmpgcpemnjbgjaaGreat
open Go.Wx Go.ChangeShapes Go.WideShapes Go.ChangeAt Go.RowKit
theorem qv' {H:Type} {d:DataW H} {l:List (DataW H)} (h:d ∈ l):Rows.uptoBulk d <= Rows.uptoBulkAll l:=by
 induction l with
 | nil=>cases h
 | cons x r ih =>
  simp only [Rows.uptoBulkAll];cases List.mem_cons.1 h with
  | inl e=>subst e; omega
  | inr e=>have:=ih e; omega
theorem ud' {H:Type} {l:List (DataW H)} (hk:Rows.uptoSmall H l = true):Rows.uptoBulkAll l <= 1048576:=of_decide_eq_true hk
theorem sd' {H:Type} (l r:List (DataW H)):Rows.uptoBulkAll (l ++ r) = Rows.uptoBulkAll l + Rows.uptoBulkAll r:=by
 induction l with
 | nil=>simp [Rows.uptoBulkAll]
 | cons x l ih=>simp only [List.cons_append,Rows.uptoBulkAll,ih]; omega
section
variable {H:Type} {enc:TypeId × Value -> H} {w:World} {spare:Nat -> Bool} {held:Bool}
end
end Go.Proofs.YtmpgcpemnjbgjaaGreat
namespace Go.Proofs.YtmpgcpemnjbgjaaGreat
open Go.Wx Cd Tm Lv Go.ChangeShapes Go.WideShapes Go.ChangeAt Go.RowKit
instance:Inhabited Nd:=⟨⟨0,0,0⟩⟩
instance:Inhabited aR':=⟨⟨0,0,0⟩⟩
instance:Inhabited BoT:=⟨⟨0,[],[],-1,[]⟩⟩
section
variable {H:Type} {enc:TypeId × Value -> H} {w:World} {spare:Nat -> Bool} {held:Bool}
end
section
variable {H:Type} {enc:TypeId × Value -> H} {w:World} {spare:Nat -> Bool} {held:Bool}
end
end Go.Proofs.YtmpgcpemnjbgjaaGreat
