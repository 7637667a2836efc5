/-
  Wx: regions that draw their order: an evaluator for operations that only read (or call what only makes new memory), in a class of worlds.
-/
import Derived.Test.YtbgiljognlbkhaaWxR
import Derived.Deep.Quiet
import Derived.StillTail
namespace Go.Wx

@[irreducible] def EvLdQ (C : World → Prop) (a : Addr) (k : Value → Prop) : Prop := ∃ v, (∀ w, C w → w.cell? a = some v) ∧ k v
@[irreducible] def EvLdNQ (C : World → Prop) (a : Addr) (n : Nat) (k : Value → Prop) : Prop :=
  ∃ cs : List Value, cs.length = n ∧ (∀ w, C w → ∀ j v, cs[j]? = some v → w.cell? (a.add j) = some v) ∧ k (.agg cs.toArray)
@[irreducible] def EvCallQ (P : Program) (C : World → Prop) (f : FuncId) (args : Array Value) (k : Value → Prop) : Prop :=
  ∃ v, CallOk P f ∧ (∀ w, C w → Calls P f args w fun e w' => e = .returned v ∧ C w') ∧ k v
@[irreducible] def EvRunQ (P : Program) (C : World → Prop) (m : Sem Value) (k : Value → Prop) : Prop := ∃ v, (∀ w, C w → m.run P w = .ok v w) ∧ k v

def binQ (P : Program) (τ : Tau) (C : World → Prop) (op : BinOp) (T : TypeId) (x y : Operand) (a b : Value) (k : Value → Prop) : Prop :=
  match a, b with
  | .int j m, .int j' n => match sameK j j' with
    | false => EvRunQ P C (binOp op T (.int j m) (.int j' n)) k
    | true => match op with
      | .add => EvInt j (m + n) k
      | .sub => EvInt j (m - n) k
      | .mul => EvInt j (m * n) k
      | .eql => k (.bool (decide (m = n)))
      | .neq => k (.bool (decide (m ≠ n)))
      | .lss => k (.bool (decide (m < n)))
      | .leq => k (.bool (decide (m ≤ n)))
      | .gtr => k (.bool (decide (n < m)))
      | .geq => k (.bool (decide (n ≤ m)))
      | op => EvRunQ P C (binOp op T (.int j m) (.int j' n)) k
  | .bool m, .bool n => match look τ.ones T with
    | some 1 => match op with
      | .eql => k (.bool (m == n))
      | .neq => k (.bool (m != n))
      | _ => False
    | _ => False
  | a, b => EvRunQ P C (do eqGuard op T x y a b; binOp op T a b) k

def q1 (P : Program) (τ : Tau) (n : Nat) (C : World → Prop) (o : Oper) (s : St) (k : St → Prop) : Prop :=
  let fin : Value → Prop := fun v => put n s o.dst v k
  match o.op with
  | .move x => wv s.e x fin
  | .assign x => wv s.e x fin
  | .pick c a b => wv s.e c fun vc => match vc with
    | .bool t => Br t (wv s.e a fin) (wv s.e b fin)
    | _ => False
  | .build T ps => wvp s.e ps.toList fun vs => match look τ.tab T with
    | some (fs, z) => match fillL (placeS fs) (z.map zc) vs with
      | some cs => fin (.agg cs.toArray)
      | none => False
    | none => False
  | .load T x => wv s.e x fun v => match v with
    | .pointer (some a) => match look τ.tab T with
      | some (_, z) => EvLdNQ C a z.length fin
      | none => match look τ.ones T with
        | some _ => EvLdQ C a fin
        | none => False
    | _ => False
  | .binOp op T x y _ => wv s.e x fun a => wv s.e y fun b => binQ P τ C op T x y a b fin
  | .unOp op _ x => wv s.e x fun a => match op, a with
    | .not, .bool b => fin (.bool (!b))
    | .neg, .int j m => EvInt j (0 - m) fin
    | op, a => EvRunQ P C (Op.unary op a) fin
  | .convert src dst x => wv s.e x fun v => match v, look τ.ones src, look τ.ones dst with
    | .int _ m, some _, some c => match kindOf c with
      | some j => EvInt j m fin
      | none => EvRunQ P C (convert src dst v) fin
    | _, _, _ => EvRunQ P C (convert src dst v) fin
  | .makeFunc fn first captured => wvs s.e first.toList fun us => wvs s.e captured.toList fun vs => fin (.func fn us.toArray vs.toArray)
  | .slice T x lo hi mx => wv s.e x fun v => wvo s.e lo fun l => wvo s.e hi fun h => wvo s.e mx fun m => EvRunQ P C (Instr.sliceAt T v l h m) fin
  | .fieldAddr T x f => wv s.e x fun v => match v, look τ.tab T with
    | .pointer (some a), some (fs, _) => match nth fs f with
      | some (o, _, _) => fin (.pointer (some (a.add o)))
      | none => False
    | _, _ => False
  | .field T x f => wv s.e x fun v => EvRunQ P C (Instr.field T v f) fin
  | .indexAddr T x i => wv s.e x fun v => wv s.e i fun j => match v, j, look τ.slcs T with
    | .slice a len _, .int _ m, some (_, sz, _) => EvIx a len sz m fun ad => fin (.pointer (some ad))
    | _, _, _ => EvRunQ P C (Instr.indexAt T v j) fin
  | .index T x i => wv s.e x fun v => wv s.e i fun j => EvRunQ P C (Instr.index T v j) fin
  | .lookup T x i ok => wv s.e x fun v => wv s.e i fun j => EvRunQ P C (Instr.lookup T v j ok) fin
  | .extract x i => wv s.e x fun v => match v with
    | .tuple vs => match nth vs.toList i with
      | some u => fin u
      | none => False
    | _ => False
  | .call c => match c.callee with
    | .value f => wv s.e f fun g => wvs s.e c.args.toList fun vs => match g with
      | .func (.func g) first captured => EvCallQ P C g (first ++ vs.toArray ++ captured) fin
      | _ => False
    | .builtin b => wvs s.e c.args.toList fun vs => match b with
      | .len => match vs, c.argTypes.toList with
        | [.slice _ m _], [T] => match look τ.slcs T with
          | some _ => fin (.int .i64 m)
          | none => EvRunQ P C (Builtin.len_ c.argTypes o.type vs.toArray) fin
        | _, _ => EvRunQ P C (Builtin.len_ c.argTypes o.type vs.toArray) fin
      | .min => EvRunQ P C (Builtin.min_ c.argTypes o.type vs.toArray) fin
      | .max => EvRunQ P C (Builtin.max_ c.argTypes o.type vs.toArray) fin
      | _ => False
    | _ => False
  | .nilCheck x => wv s.e x fun v => match v with
    | .pointer (some a) => fin (.pointer (some a))
    | _ => False
  | _ => False

def wpQ (P : Program) (τ : Tau) (n : Nat) (C : World → Prop) (all : List Oper) (k : St → Prop) (l : List Oper) : St → Prop :=
  List.rec (motive := fun _ => St → Prop) (fun s => k s) (fun o _ ih s => match o.guard with
    | none => q1 P τ n C o s ih
    | some (j, want) => match dstOf all j with
      | none => False
      | some d => match get s.e d with
        | some (.bool c) => match s with
          | ⟨e, ds⟩ => match want with
            | true => Br c (q1 P τ n C o ⟨(d, .bool true) :: e, ds⟩ ih) (put n ⟨(d, .bool false) :: e, ds⟩ o.dst undef fun s' => ih s')
            | false => Br c (put n ⟨(d, .bool true) :: e, ds⟩ o.dst undef fun s' => ih s') (q1 P τ n C o ⟨(d, .bool false) :: e, ds⟩ ih)
        | some (.tuple _) => put n s o.dst undef fun s' => ih s'
        | _ => False) l

theorem wpQ_cons (P : Program) (τ : Tau) (n : Nat) (C : World → Prop) (all : List Oper) (k : St → Prop) (o : Oper) (rest : List Oper) (s : St) :
    wpQ P τ n C all k (o :: rest) s = (match o.guard with
    | none => q1 P τ n C o s (wpQ P τ n C all k rest)
    | some (j, want) => match dstOf all j with
      | none => False
      | some d => match get s.e d with
        | some (.bool c) => match s with
          | ⟨e, ds⟩ => match want with
            | true => Br c (q1 P τ n C o ⟨(d, .bool true) :: e, ds⟩ (wpQ P τ n C all k rest)) (put n ⟨(d, .bool false) :: e, ds⟩ o.dst undef fun s' => wpQ P τ n C all k rest s')
            | false => Br c (put n ⟨(d, .bool true) :: e, ds⟩ o.dst undef fun s' => wpQ P τ n C all k rest s') (q1 P τ n C o ⟨(d, .bool false) :: e, ds⟩ (wpQ P τ n C all k rest))
        | some (.tuple _) => put n s o.dst undef fun s' => wpQ P τ n C all k rest s'
        | _ => False) := rfl

section
variable {P : Program} {τ : Tau} {n : Nat} {o : Oper} {a : Act} {s : St} {C : World → Prop}

/-- what 'q1' says of an operation: one value in every world of the class -/
def Yq (P : Program) (n : Nat) (C : World → Prop) (o : Oper) (a : Act) (k : St → Prop) : Prop :=
  ∃ v, (∀ w, C w → o.quietAt P a C w v) ∧ ∃ s', Fr n (a.put o.dst v) s' ∧ k s'

theorem yq_run {m : Sem Value} {k : St → Prop} (he : execOp a.eval o = (do pure (.value (← m)))) (hF : Fr n a s) (h : EvRunQ P C m fun v => put n s o.dst v k) : Yq P n C o a k := by
  unfold EvRunQ at h
  obtain ⟨v, hr, hp⟩ := h
  refine ⟨v, fun w hw => ?_, hF.put hp⟩
  unfold Oper.quietAt
  rw [he]
  have : (do pure (Next.value (← m)) : Sem Next).run P w = .ok (.value v) w := by simp [hr w hw]
  rw [this]
  exact ⟨rfl, rfl⟩

theorem yq_value {v : Value} {k : St → Prop} (he : ∀ w, C w → (execOp a.eval o).run P w = .ok (.value v) w) (hF : Fr n a s) (hp : put n s o.dst v k) : Yq P n C o a k := by
  refine ⟨v, fun w hw => ?_, hF.put hp⟩
  unfold Oper.quietAt
  rw [he w hw]
  exact ⟨rfl, rfl⟩

/-- from an operation of the sequential evaluator that leaves every world alone -/
theorem yq_of_wp {k : St → Prop} {m : Sem Value} (he : execOp a.eval o = (do pure (.value (← m)))) (hF : Fr n a s) (v : Value) (hm : ∀ w, C w → m.run P w = .ok v w) (hp : put n s o.dst v k) : Yq P n C o a k :=
  yq_run he hF (by unfold EvRunQ; exact ⟨v, hm, hp⟩)

theorem binQ_run (hτ : TauOk P τ) {op : BinOp} {T : TypeId} {x y : Operand} {u v : Value} {k : Value → Prop} (h : binQ P τ C op T x y u v k) :
    EvRunQ P C (do eqGuard op T x y u v; binOp op T u v) k := by
  unfold binQ at h
  split at h
  · rename_i j m j' l
    split at h
    · unfold EvRunQ at h ⊢
      obtain ⟨v, hr, hk⟩ := h
      exact ⟨v, fun w hw => by simp [eqGuard_int, hr w hw], hk⟩
    · rename_i hs
      have := sameK_eq hs
      subst this
      split at h
      all_goals (try replace h := EvInt.elim h)
      all_goals (try unfold EvRunQ at h)
      all_goals unfold EvRunQ
      case h_10 =>
        obtain ⟨v, hr, hk⟩ := h
        exact ⟨v, fun w hw => by simp [eqGuard_int, hr w hw], hk⟩
      all_goals (refine ⟨_, fun w hw => ?_, h⟩; simp [eqGuard_int, binOp, Op.intArith, Op.intCmp]; try rfl)
      all_goals (by_cases e : m = l <;> simp [e])
  · rename_i m l
    split at h
    · rename_i hs
      obtain ⟨d, _, hb, _, _, _, _, _, hd, _⟩ := hτ.ones T 1 hs
      rw [hd rfl] at hb
      unfold EvRunQ
      split at h
      · exact ⟨_, fun w _ => by simp [eqGuard_bool, run_eql_bool w T m l hb], h⟩
      · exact ⟨_, fun w _ => by simp only [Sem.run_bind, eqGuard_bool, Result.andThen_ok, run_neq_bool w T m l hb]; rfl, h⟩
      · exact h.elim
    · exact h.elim
  · exact h

theorem run_build_ok (hτ : TauOk P τ) {T : Nat} {fs : List (Nat × Nat × Bool)} {z : List Nat} {vs : List (Nat × Value)} {cs : List Value} (hr : look τ.tab T = some (fs, z)) (hc : fillL (placeS fs) (z.map zc) vs = some cs) (w : World) :
    (Instr.build T vs.toArray).run P w = .ok (.agg cs.toArray) w := by
  obtain ⟨gs, hu, hfs, hinf, i, hi, _, hz⟩ := hτ.tab T fs z hr
  have hplaces : ∀ (l : List Field), (∀ f ∈ l, (∃ d, P.underlying f.type = some d) ∧ ∃ i, P.info? f.type = some i ∧ i.size ≠ 0) → (l.mapM (m := Sem) fun f => do pure (f.offset, ← sizeOf f.type)).run P w = .ok (l.map fun f => (f.offset, P.cellsOf f.type)) w := by
    intro l
    induction l with
    | nil => intro _; simp
    | cons f l ih =>
      intro hl
      obtain ⟨_, j, hj, _⟩ := hl f (by simp)
      have := ih fun g hg => hl g (by simp [hg])
      have hsz : (sizeOf f.type).run P w = .ok (P.cellsOf f.type) w := by simp [sizeOf, typeInfo, hj, Program.cellsOf]
      simp only [List.mapM_cons, Sem.run_bind, hsz, Result.andThen_ok, Sem.run_pure, this, List.map_cons]
  have hpl : (gs.mapM (m := Sem) fun f => do pure (f.offset, ← sizeOf f.type)).run P w = .ok (gs.toList.map fun f => (f.offset, P.cellsOf f.type)).toArray w := by
    rw [Array.mapM_eq_mapM_toList]
    have := hplaces gs.toList hinf
    simp only [bind_pure_comp] at this ⊢
    simp [this]
  have hpe : placeS fs = fun i => (gs.toList.map fun f => (f.offset, P.cellsOf f.type)).toArray[i]? := by
    funext i
    unfold placeS
    rw [nth_eq, ← hfs]
    simp only [List.getElem?_map, List.getElem?_toArray]
    cases gs.toList[i]? <;> rfl
  rw [hpe] at hc
  have hfill := fillL_fill _ _ _ hc
  simp only [Instr.build, Sem.run_bind, zeroValue, typeInfo, run_program, Result.andThen_ok, hi, Sem.run_pure, hz, run_underlying hu, hpl]
  simp only [Value.cells]
  rw [hfill]
  simp

theorem run_ld_ok (hτ : TauOk P τ) {T c : Nat} (hc : look τ.ones T = some c) {ad : Addr} {v : Value} {w : World} (hv : w.cell? ad = some v) : (Instr.loadAt T (.pointer (some ad))).run P w = .ok v w := by
  obtain ⟨d, i, hu, hn, hi, hsz, hz, h1', _⟩ := hτ.ones T c hc
  cases d <;> simp_all [Instr.loadAt, Instr.sureAddr, loadVar, isAgg, run_underlying hu, notAgg]

theorem run_ldN_ok (hτ : TauOk P τ) {T : Nat} {fs : List (Nat × Nat × Bool)} {z : List Nat} (hr : look τ.tab T = some (fs, z)) {ad : Addr} {cs : List Value} {w : World} (hl : cs.length = z.length)
    (hc : ∀ j v, cs[j]? = some v → w.cell? (ad.add j) = some v) : (Instr.loadAt T (.pointer (some ad))).run P w = .ok (.agg cs.toArray) w := by
  obtain ⟨gs, hu, hfs, hinf, i, hi, hsz, hz⟩ := hτ.tab T fs z hr
  have := run_loadCells_list (P := P) (w := w) ad cs hc
  rw [hl] at this
  simp [Instr.loadAt, Instr.sureAddr, loadVar, isAgg, run_underlying hu, sizeOf, typeInfo, hi, hsz, this]

theorem run_fieldAddr_ok (hτ : TauOk P τ) {T f : Nat} {fs : List (Nat × Nat × Bool)} {z : List Nat} (hr : look τ.tab T = some (fs, z)) {off sz : Nat} {ag : Bool} (hf : nth fs f = some (off, sz, ag)) (ad : Addr) (w : World) :
    (Instr.fieldAt T (.pointer (some ad)) f).run P w = .ok (.pointer (some (ad.add off))) w := by
  obtain ⟨gs, hu, hfs, hinf, _⟩ := hτ.tab T fs z hr
  rw [nth_eq, ← hfs] at hf
  simp only [List.getElem?_map] at hf
  cases hg : gs.toList[f]? with
  | none => simp [hg] at hf
  | some g =>
    simp [hg] at hf
    obtain ⟨ho, _, _⟩ := hf
    obtain ⟨_, j, hj, hsz⟩ := hinf g (List.mem_of_getElem? hg)
    have hg' : gs[f]? = some g := by simpa using hg
    simp [Instr.fieldAt, run_underlying hu, hg', Instr.sureAddr, fieldPlace, sizeOf, typeInfo, hj, hsz, ho]

theorem run_index_ok (hτ : TauOk P τ) {T e sz bs : Nat} (hs : look τ.slcs T = some (e, sz, bs)) {ad : Addr} {len cap : Nat} {j : IntKind} {m : Int} (h0 : 0 ≤ m) (hlt : m < len) (w : World) :
    (Instr.indexAt T (.slice (some ad) len cap) (.int j m)).run P w = .ok (.pointer (some (ad.add (m.toNat * sz)))) w := by
  obtain ⟨hu, inf, hinf, hsz, _⟩ := hτ.slcs T e sz bs hs
  simp [Instr.indexAt, asIntOf, run_underlying hu, h0, hlt, sizeOf, typeInfo, hinf, hsz]

theorem run_conv_ok (hτ : TauOk P τ) {T U c0 c : Nat} (hT : look τ.ones T = some c0) (hU : look τ.ones U = some c) {j j0 : IntKind} (hj : kindOf c = some j) (m : Int) (w : World) :
    (convert T U (.int j0 m)).run P w = .ok (.int j (j.wrap m)) w := by
  obtain ⟨d, i, hu, _⟩ := hτ.ones T c0 hT
  obtain ⟨d', i', hu', _, _, _, _, _, _, hd'⟩ := hτ.ones U c hU
  have := hd' j hj
  subst this
  simp [convert, run_underlying hu, run_underlying hu', Conv.intToInt]

theorem q1_sound (hτ : TauOk P τ) {k : St → Prop} (hF : Fr n a s) (h : q1 P τ n C o s k) : Yq P n C o a k := by
  cases hop : o.op <;> simp only [q1, hop] at h
  case move x => exact yq_value (fun w _ => by simp [execOp, hop]) hF (hF.wv h)
  case assign x => exact yq_value (fun w _ => by simp [execOp, hop]) hF (hF.wv h)
  case pick c x y =>
    have h1 := hF.wv h
    split at h1
    · rename_i t ht
      rcases br_cases h1 with ⟨e, h2⟩ | ⟨e, h2⟩
      · subst e; exact yq_value (fun w _ => by simp [execOp, hop, ht, asBool]) hF (hF.wv h2)
      · subst e; exact yq_value (fun w _ => by simp [execOp, hop, ht, asBool]) hF (hF.wv h2)
    · exact h1.elim
  case build T ps =>
    have h1 := hF.wvp _ _ h
    have hm : (ps.map fun p => (p.1, a.eval p.2)) = (ps.toList.map fun p => (p.1, a.eval p.2)).toArray := Array.ext' (by simp)
    split at h1
    · rename_i fs z hr
      split at h1
      · rename_i cs hc
        refine yq_of_wp (m := Instr.build T (ps.map fun p => (p.1, a.eval p.2))) (by simp [execOp, hop]) hF _ (fun w _ => ?_) h1
        rw [hm]
        exact run_build_ok hτ hr hc w
      · exact h1.elim
    · exact h1.elim
  case load T x =>
    have h1 := hF.wv h
    split at h1
    · rename_i ad hx
      split at h1
      · rename_i fs z hr
        unfold EvLdNQ at h1
        obtain ⟨cs, hl, hc, hput⟩ := h1
        refine yq_of_wp (m := Instr.loadAt T (a.eval x)) (by simp [execOp, hop]) hF _ (fun w hw => ?_) hput
        rw [hx]
        exact run_ldN_ok hτ hr hl (hc w hw)
      · split at h1
        · rename_i c hc
          unfold EvLdQ at h1
          obtain ⟨v, hv, hput⟩ := h1
          refine yq_of_wp (m := Instr.loadAt T (a.eval x)) (by simp [execOp, hop]) hF _ (fun w hw => ?_) hput
          rw [hx]
          exact run_ld_ok hτ hc (hv w hw)
        · exact h1.elim
    · exact h1.elim
  case binOp op T x y U => exact yq_run (m := do eqGuard op T x y (a.eval x) (a.eval y); binOp op T (a.eval x) (a.eval y)) (by simp [execOp, hop]) hF (binQ_run hτ (hF.wv (hF.wv h)))
  case unOp op T x =>
    have h1 := hF.wv h
    refine yq_run (m := Op.unary op (a.eval x)) (by simp [execOp, hop]) hF ?_
    split at h1
    · rename_i b hx; rw [hx]; unfold EvRunQ; exact ⟨_, fun w _ => by simp [Op.unary], h1⟩
    · rename_i j m hx; rw [hx]; replace h1 := EvInt.elim h1; unfold EvRunQ; exact ⟨_, fun w _ => by simp [Op.unary, Op.intArith], h1⟩
    · exact h1
  case convert T U x =>
    have h1 := hF.wv h
    refine yq_run (m := convert T U (a.eval x)) (by simp [execOp, hop]) hF ?_
    split at h1
    · rename_i j0 m c0 c hx hT hU
      split at h1
      · rename_i j hj
        replace h1 := EvInt.elim h1
        unfold EvRunQ
        refine ⟨_, fun w _ => ?_, h1⟩
        rw [hx]
        exact run_conv_ok hτ hT hU hj m w
      · exact h1
    · exact h1
  case makeFunc fn first captured =>
    have h1 := hF.wvs _ _ (hF.wvs _ _ h)
    refine yq_value (v := .func fn (first.map a.eval) (captured.map a.eval)) (fun w _ => by simp [execOp, hop, Instr.makeFunc]) hF ?_
    rw [map_ev, map_ev]; exact h1
  case slice T x lo hi mx => exact yq_run (by simp [execOp, hop]) hF (hF.wvo (hF.wvo (hF.wvo (hF.wv h))))
  case fieldAddr T x f =>
    have h1 := hF.wv h
    split at h1
    · rename_i ad fs z hx hr
      split at h1
      · rename_i off sz ag hf
        refine yq_of_wp (m := Instr.fieldAt T (a.eval x) f) (by simp [execOp, hop]) hF _ (fun w _ => ?_) h1
        rw [hx]
        exact run_fieldAddr_ok hτ hr hf ad w
      · exact h1.elim
    · exact h1.elim
  case field T x f => exact yq_run (by simp [execOp, hop]) hF (hF.wv h)
  case indexAddr T x i =>
    have h1 := hF.wv (hF.wv h)
    refine yq_run (m := Instr.indexAt T (a.eval x) (a.eval i)) (by simp [execOp, hop]) hF ?_
    split at h1
    · rename_i ad len cap j m e sz bs hx hi hs
      unfold EvIx at h1
      obtain ⟨ad', rfl, h0, hlt, hput⟩ := h1
      unfold EvRunQ
      refine ⟨_, fun w _ => ?_, hput⟩
      rw [hx, hi]
      exact run_index_ok hτ hs h0 hlt w
    · exact h1
  case index T x i => exact yq_run (by simp [execOp, hop]) hF (hF.wv (hF.wv h))
  case lookup T x i ok => exact yq_run (by simp [execOp, hop]) hF (hF.wv (hF.wv h))
  case extract x i =>
    have h1 := hF.wv h
    split at h1
    · rename_i vs hx
      split at h1
      · rename_i u hu
        rw [nth_eq] at hu
        have hu' : vs[i]? = some u := by simpa using hu
        exact yq_value (v := u) (fun w _ => by simp [execOp, hop, Instr.extract, hx, hu']) hF h1
      · exact h1.elim
    · exact h1.elim
  case call c =>
    cases hc : c.callee with
    | value f =>
      simp only [hc] at h
      have h1 := hF.wvs _ _ (hF.wv h)
      split at h1
      · rename_i g first captured hg
        unfold EvCallQ at h1
        obtain ⟨v, hok, hcall, hput⟩ := h1
        refine ⟨v, fun w hw => ?_, hF.put hput⟩
        have hr : (execOp a.eval o).run P w = .ok (.enter g (first ++ (c.args.toList.map a.eval).toArray ++ captured)) w := by
          simp only [execOp, hop, resolve, hc, hg, Deferred.ofValue, Sem.run_bind, Sem.run_pure, Result.andThen_ok, invoke]
          rw [run_callFunc hok, map_ev]
        unfold Oper.quietAt
        rw [hr]
        exact ⟨rfl, hcall w hw⟩
      · exact h1.elim
    | builtin b =>
      simp only [hc] at h
      have h1 := hF.wvs _ _ h
      have e1 : (c.args.toList.map a.eval).toArray = c.args.map a.eval := (map_ev a c.args).symm
      simp only [e1] at h1
      cases b <;> simp only at h1
      case len =>
        refine yq_run (m := Builtin.len_ c.argTypes o.type (c.args.map a.eval)) (by simp [execOp, hop, resolve, hc, invoke, builtin]) hF ?_
        split at h1
        · rename_i ad m cap T hvs hts
          split at h1
          · rename_i q hs
            obtain ⟨e, sz, bs⟩ := q
            obtain ⟨hu, _⟩ := hτ.slcs T e sz bs hs
            unfold EvRunQ
            refine ⟨_, fun w _ => ?_, h1⟩
            rw [← e1, hvs]
            have hat : c.argTypes = #[T] := Array.ext' (by simpa using hts)
            rw [hat]
            simp [Builtin.len_, run_underlying hu, goInt]
          · exact h1
        · exact h1
      case min => exact yq_run (by simp [execOp, hop, resolve, hc, invoke, builtin]) hF h1
      case max => exact yq_run (by simp [execOp, hop, resolve, hc, invoke, builtin]) hF h1
    | invoke r m => simp only [hc] at h
  case nilCheck x =>
    have h1 := hF.wv h
    split at h1
    · rename_i ad hx
      exact yq_value (fun w _ => by simp [execOp, hop, hx]) hF h1
    · exact h1.elim

theorem wpQ_sound (hτ : TauOk P τ) {l : List Oper} {k : St → Prop} {Q : Act → Prop} (hk : ∀ s' a', Fr n a' s' → k s' → Q a') :
    ∀ (r : List Oper) (s : St) (a : Act), Fr n a s → wpQ P τ n C l k r s → wpQuiet P l.toArray C Q r a
  | [], s, a, hF, h => hk _ _ hF h
  | o :: r, s, a, hF, h => by
    have ih := wpQ_sound hτ (l := l) (Q := Q) hk r
    have hstep : ∀ (s₀ : St), Fr n a s₀ → q1 P τ n C o s₀ (wpQ P τ n C l k r) → o.quiet P a C (wpQuiet P l.toArray C Q r) := fun s₀ h₀ h₁ => by
      obtain ⟨v, hv, s', hF', hs⟩ := q1_sound hτ h₀ h₁
      exact ⟨v, hv, ih s' _ hF' hs⟩
    have hskip : ∀ (s₀ : St), Fr n a s₀ → (put n s₀ o.dst undef fun s' => wpQ P τ n C l k r s') → wpQuiet P l.toArray C Q r (a.put o.dst undef) := fun s₀ h₀ h₁ => by
      obtain ⟨s', hF', hs⟩ := h₀.put h₁
      exact ih s' _ hF' hs
    rw [wpQ_cons] at h
    unfold wpQuiet
    cases hg : o.guard with
    | none =>
      rw [hg] at h
      rw [if_pos (by simp [Region.wanted, hg])]
      exact hstep s hF h
    | some q =>
      obtain ⟨j, want⟩ := q
      rw [hg] at h
      simp only at h
      cases hd : dstOf l j with
      | none => rw [hd] at h; exact h.elim
      | some d =>
        rw [hd] at h
        simp only at h
        cases hv : get s.e d with
        | none => rw [hv] at h; exact h.elim
        | some v =>
          rw [hv] at h
          have hw := wanted_of (a := a) hg hd (hF.has d v hv)
          cases v <;> simp only at h
          case bool c =>
            cases want <;> simp only at h <;> rcases br_cases h with ⟨e, h2⟩ | ⟨e, h2⟩ <;> subst e
            · rw [if_neg (by rw [hw]; simp)]
              exact hskip _ (hF.again hv) h2
            · rw [if_pos (by rw [hw]; simp)]
              exact hstep _ (hF.again hv) h2
            · rw [if_pos (by rw [hw]; simp)]
              exact hstep _ (hF.again hv) h2
            · rw [if_neg (by rw [hw]; simp)]
              exact hskip _ (hF.again hv) h2
          case tuple vs =>
            rw [if_neg (by rw [hw]; simp)]
            exact hskip _ hF h
end

/-- A region that draws its order, whose operations only read or call: in a class of worlds. -/
theorem drawQ {P : Program} {τ : Tau} {n id : Nat} {l : List Oper} {s : St} {w : World} {K : Exit → St → World → Prop} (hτ : TauOk P τ) (C : World → Prop) (hB : Region.lexB .any l.toArray = true)
    (hC : C { w with drawn := w.drawn + 1 }) (h : wpQ P τ n C l (fun s' => ∀ w', C w' → K .normal s' w') l s) : EvCode P n (.region id l.toArray true) s w K := by
  unfold EvCode
  intro a hF
  refine wp_region_quiet (C := C) hτ.mixed hB hC ?_
  have := wpQ_sound hτ (n := n) (l := l) (C := C) (Q := fun a' => ∀ w', C w' → lift n K .normal a' w') (k := fun s' => ∀ w', C w' → K .normal s' w') (fun s' a' hF' hs w' hw' => ⟨s', hF', hs w' hw'⟩) l s a hF h
  simpa using this

/-- .. that only reads: the heap is what it was, by unfolding. -/
theorem drawR {P : Program} {τ : Tau} {n id : Nat} {l : List Oper} {s : St} {w : World} {K : Exit → St → World → Prop} (hτ : TauOk P τ) (hB : Region.lexB .any l.toArray = true)
    (h : wpQ P τ n (fun w' => ∃ m, w' = { w with drawn := m }) l (fun s' => ∀ m, K .normal s' { w with drawn := m }) l s) : EvCode P n (.region id l.toArray true) s w K := by
  refine drawQ hτ (fun w' => ∃ m, w' = { w with drawn := m }) hB ⟨_, rfl⟩ ?_
  have hfun : (fun s' => ∀ w', (∃ m, w' = { w with drawn := m }) → K .normal s' w') = fun s' => ∀ m, K .normal s' { w with drawn := m } := by
    funext s'
    exact propext ⟨fun hh m => hh _ ⟨m, rfl⟩, fun hh w' ⟨m, e⟩ => e ▸ hh m⟩
  rw [hfun]
  exact h

theorem still_of_quiet {P : Program} {W : World} {o : Oper} {a : Act} {next : Act → Prop} (h : o.quiet P a (· = W) next) : o.still P a W next := by
  obtain ⟨v, hv, hn⟩ := h
  have := hv W rfl
  unfold Oper.quietAt at this
  unfold Oper.still
  generalize (execOp a.eval o).run P W = r at *
  cases r with
  | ok x w' =>
    cases x <;> simp only [Oper.quietUpon] at this <;> simp only [Oper.stillUpon]
    case value u => obtain ⟨e1, e2⟩ := this; exact ⟨e1, e2 ▸ hn⟩
    case skip => obtain ⟨e1, e2⟩ := this; exact ⟨e1, e2 ▸ hn⟩
    case enter f args => obtain ⟨e1, hc⟩ := this; exact ⟨e1, v, hc, hn⟩
  | halt x w' => simp only [Oper.quietUpon] at this

theorem wpStill_of_quiet {P : Program} {W : World} {ops : Array Oper} {Q : Act → Prop} : ∀ (r : List Oper) (a : Act), wpQuiet P ops (· = W) Q r a → wpStill P ops W Q r a
  | [], _, h => h
  | o :: r, a, h => by
    unfold wpQuiet at h
    unfold wpStill
    split
    · rename_i hw
      rw [if_pos hw] at h
      exact Oper.still_mono (fun a' h' => wpStill_of_quiet r a' h') (still_of_quiet h)
    · rename_i hw
      rw [if_neg hw] at h
      exact wpStill_of_quiet r _ h

/-- .. whose first m operations only read, and whose others come one behind the other. -/
theorem drawT {P : Program} {τ : Tau} {n id : Nat} {l : List Oper} {s : St} {w : World} {K : Exit → St → World → Prop} (hτ : TauOk P τ) (m : Nat) (hd tl : List Oper) (h1 : l.take m = hd) (h2 : l.drop m = tl) (hB : Region.lexTailB .any l.toArray m = true)
    (h : wpQ P τ n (· = { w with drawn := w.drawn + 1 }) l (fun s' => wpL P τ n l (K .normal) (fun ch => K (.panic ch)) tl s' { w with drawn := w.drawn + 1 }) hd s) : EvCode P n (.region id l.toArray true) s w K := by
  unfold EvCode
  intro a hF
  subst h1 h2
  refine wp_region_still_tail m hτ.mixed hB ?_
  refine wpStill_of_quiet _ _ ?_
  exact wpQ_sound hτ (l := l) (k := fun s' => wpL P τ n l (K .normal) (fun ch => K (.panic ch)) (l.drop m) s' { w with drawn := w.drawn + 1 })
    (fun s' a' hF' hs => wpL_sound hτ (n := n) (l := l) (Q := lift n K) (fun s'' w'' a'' hF'' hs' => ⟨s'', hF'', hs'⟩) (fun ch s'' w'' a'' hF'' hs' => ⟨s'', hF'', hs'⟩) _ s' _ a' hF' hs) _ s a hF h

/-! ### rules -/
theorem ldR {w : World} {b o : Nat} {v : Value} {k : Value → Prop} (h : Cl w.heap b o v) (hk : k v) : EvLdQ (fun w' => ∃ m, w' = { w with drawn := m }) ⟨b, o, none⟩ k := by
  unfold EvLdQ
  refine ⟨v, fun w' ⟨m, e⟩ => ?_, hk⟩
  subst e
  exact Cl.cell (w := { w with drawn := m }) h
theorem ldS {w : World} {b o : Nat} {v : Value} {k : Value → Prop} (h : Cl w.heap b o v) (hk : k v) : EvLdQ (· = w) ⟨b, o, none⟩ k := by
  unfold EvLdQ
  exact ⟨v, fun w' e => by subst e; exact h.cell, hk⟩
theorem ldK {w : World} {b o : Nat} {v : Value} {k : Value → Prop} (h : Cl w.heap b o v) (hk : k v) : EvLdQ (fun w' => Kp [] w w') ⟨b, o, none⟩ k := by
  unfold EvLdQ
  exact ⟨v, fun w' e => (h.kp e (by simp)).cell, hk⟩
theorem ldQ {C : World → Prop} {b o : Nat} {v : Value} {k : Value → Prop} (h : ∀ w, C w → Cl w.heap b o v) (hk : k v) : EvLdQ C ⟨b, o, none⟩ k := by
  unfold EvLdQ
  exact ⟨v, fun w' e => (h w' e).cell, hk⟩
theorem callQ {P : Program} {C : World → Prop} {f : FuncId} {args : Array Value} {k : Value → Prop} (v : Value) (h : ∀ w, C w → CallOk P f ∧ Calls P f args w fun e w' => e = .returned v ∧ C w') (hok : CallOk P f) (hk : k v) : EvCallQ P C f args k := by
  unfold EvCallQ
  exact ⟨v, hok, fun w hw => (h w hw).2, hk⟩
/-- a call whose contract says 'returns v, keeps all' -/
theorem callK {P : Program} {w : World} {f : FuncId} {args : Array Value} {k : Value → Prop} {v : Value} (h : ∀ w', Kp [] w w' → CallOk P f ∧ Calls P f args w' fun e w'' => e = .returned v ∧ Kp [] w' w'') (hk : k v) : EvCallQ P (fun w' => Kp [] w w') f args k := by
  unfold EvCallQ
  exact ⟨v, (h w (Kp.refl _ _)).1, fun w' hw => (h w' hw).2.mono fun e w'' ⟨he, hk'⟩ => ⟨he, hw.tr hk'⟩, hk⟩

end Go.Wx
