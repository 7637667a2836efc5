/-
  Levels: the walks of the program's functions.
-/
import Derived.Test.YtbgiljognlbkhaaLvW
set_option linter.unusedSimpArgs false
set_option linter.unusedVariables false
namespace Go.Proofs.Ytbgiljognlbkhaa
open Go.Wx Lv

def ofF (vals : List Int) (v : Int) : Int := if v < 1 ∨ vals.length < v then 0 else vals.getD (v - 1).toNat 0

theorem of_ct (vals : List Int) (a : Option Addr) (cap : Nat) (v : Int) (w : World) (N : Nat) (hv : Ints N w.heap a vals) (hr : I64 v) :
    CallOk Try.prog 39 ∧ Calls Try.prog 39 #[.slice a vals.length cap, .int .i64 v] w (fun e w' => e = .returned (.int .i64 (ofF vals v)) ∧ Kp [] w w') := by
  refine ⟨⟨_, Try.func39, rfl, by decide⟩, ?_⟩
  refine calls_of (args := [_, _]) 18 [.tmp 4] τok Try.func39 rfl rfl rfl (Nat.le_of_ble_eq_true rfl) ?_
  refine br_dec (fun h1 => ?_) (fun h1 => ?_)
  · exact ⟨by simp [ofF, h1, one], Kp.refl _ _⟩
  · refine br_dec (fun h2 => ?_) (fun h2 => ?_)
    · exact ⟨by simp [ofF, h2, one], Kp.refl _ _⟩
    · unfold I64 at hr
      refine int64 (by omega) (by omega) ?_
      rcases hv.1 with h0 | ⟨b, o, rfl, hb, hc⟩
      · omega
      refine ix (v - 1).toNat (by omega) (by omega) ?_
      refine ld (hc (v - 1).toNat 0 (by omega) (by omega)).cell ?_
      exact ⟨by simp [ofF, h1, h2, one], Kp.refl _ _⟩

def rightGo (vars : Int) : List Atom → Int → Bool
  | [], _ => true
  | x :: r, last => if x.var ≤ last ∨ vars < x.var ∨ x.add < 0 ∨ 1000 < x.add then false else rightGo vars r x.var
def rightF (l : List Atom) (vars : Int) : Bool :=
  if vars < 0 ∨ 16 < vars ∨ l.length < 1 ∨ 4 < l.length then false else rightGo vars l (-1)

theorem right_ct (l : List Atom) (a : Option Addr) (cap : Nat) (vars : Int) (w : World) {N : Nat} (hv : Atoms N w.heap a l) :
    CallOk Try.prog 25 ∧ Calls Try.prog 25 #[.slice a l.length cap, .int .i64 vars] w (fun e w' => e = .returned (.bool (rightF l vars)) ∧ Kp [] w w') := by
  refine ⟨⟨_, Try.func25, rfl, by decide⟩, ?_⟩
  refine calls_of (args := [_, _]) 53 [.tmp 4] τok Try.func25 rfl rfl rfl (Nat.le_of_ble_eq_true rfl) ?_
  have no : vars < 0 ∨ 16 < vars ∨ l.length < 1 ∨ 4 < l.length → rightF l vars = false := fun h => by unfold rightF; rw [if_pos h]
  refine br_dec (fun h1 => ?_) (fun h1 => ?_)
  · exact ⟨by rw [no (by omega)]; rfl, Kp.refl _ _⟩
  refine br_dec (fun h2 => ?_) (fun h2 => ?_)
  · exact ⟨by rw [no (by omega)]; rfl, Kp.refl _ _⟩
  refine br_dec (fun h3 => ?_) (fun h3 => ?_)
  · exact ⟨by rw [no (by omega)]; rfl, Kp.refl _ _⟩
  refine br_dec (fun h4 => ?_) (fun h4 => ?_)
  · exact ⟨by rw [no (by omega)]; rfl, Kp.refl _ _⟩
  rcases hv.1 with h0 | ⟨b, o, rfl, hb, hc⟩
  · omega
  refine loop τok (σ := Nat × Int) (fun x => [(24, .slice (some ⟨b, o, none⟩) l.length cap), (25, .int .i64 l.length), (26, .int .i64 x.1), (5, .int .i64 x.2), (1, .int .i64 vars)])
    (fun x w' => x.1 ≤ l.length ∧ rightF l vars = rightGo vars (l.drop x.1) x.2 ∧ Kp [] w w') (fun x => l.length - x.1) (0, -1) ⟨rfl, rfl, rfl, rfl, rfl, trivial⟩ ⟨Nat.zero_le _, ?_, Kp.refl _ _⟩ ?_
  · unfold rightF; rw [if_neg (by omega)]; rfl
  rintro ⟨k, last⟩ w1 ⟨hk, hr, hkp⟩
  refine br_dec (fun h5 => ?_) (fun h5 => ?_)
  · have hlt : k < l.length := by omega
    obtain ⟨x, hx⟩ : ∃ x, x = l.getD k default := ⟨_, rfl⟩
    rw [drop_cons l k hlt, ← hx] at hr
    have hc0 := (hc k 0 hlt (by omega)).kp hkp (by simp)
    have hc1 := (hc k 1 hlt (by omega)).kp hkp (by simp)
    simp only [if_true, if_false, Nat.one_ne_zero, ← hx] at hc0 hc1
    refine ix k rfl hlt ?_
    refine ldN [.int .i64 x.var, .int .i64 x.add] rfl (at2 hc0 hc1) ?_
    refine new fun b2 w2 hb2 hB2 hs2 hk2 => ?_
    refine stN hB2 rfl (by simp [Value.oneCell']) fun w3 hB3 hs3 hk3 => ?_
    have hkp3 := hkp.tr (hk2.newSt hb2 hk3)
    have bad : (x.var ≤ last ∨ vars < x.var ∨ x.add < 0 ∨ 1000 < x.add) → rightF l vars = false := fun h => by rw [hr]; simp only [rightGo]; rw [if_pos h]
    refine ld (hB3.cl rfl).cell ?_
    refine br_dec (fun c1 => ?_) (fun c1 => ?_)
    · exact ⟨by rw [bad (by omega)]; rfl, hkp3⟩
    refine ld (hB3.cl rfl).cell ?_
    refine br_dec (fun c2 => ?_) (fun c2 => ?_)
    · exact ⟨by rw [bad (by omega)]; rfl, hkp3⟩
    refine ld (hB3.cl rfl).cell ?_
    refine br_dec (fun c3 => ?_) (fun c3 => ?_)
    · exact ⟨by rw [bad (by omega)]; rfl, hkp3⟩
    refine ld (hB3.cl rfl).cell ?_
    refine br_dec (fun c4 => ?_) (fun c4 => ?_)
    · exact ⟨by rw [bad (by omega)]; rfl, hkp3⟩
    refine ld (hB3.cl rfl).cell ?_
    refine int64 (by omega) (by omega) ?_
    refine ⟨(k + 1, x.var), by simp only; omega, rfl, ⟨rfl, rfl, rfl, rfl, rfl, trivial⟩, hlt, ?_, hkp3⟩
    rw [hr]; simp only [rightGo]; rw [if_neg (by omega)]
  · refine ⟨?_, hkp⟩
    rw [hr, List.drop_eq_nil_of_le (by omega)]
    rfl

/-! ### slices.IndexFunc, slices.ContainsFunc over atoms -/
def idxF (p : Atom → Bool) : List Atom → Int → Int
  | [], _ => -1
  | x :: r, i => if p x then i else idxF p r (i + 1)

theorem idxF_ge (p : Atom → Bool) : ∀ (l : List Atom) (i : Int), 0 ≤ i → (decide (0 ≤ idxF p l i) = l.any p)
  | [], i, _ => by simp [idxF]
  | x :: r, i, h => by
    simp only [idxF, List.any_cons]
    by_cases hp : p x = true
    · simp [hp, h]
    · simp [hp, idxF_ge p r (i + 1) (by omega)]

def FnOk (f : FuncId) (captured : Array Value) (w : World) (p : Atom → Bool) (x : Atom) : Prop :=
  CallOk Try.prog f ∧ Calls Try.prog f (#[] ++ [Value.agg [.int .i64 x.var, .int .i64 x.add].toArray].toArray ++ captured) w (fun e w' => e = .returned (.bool (p x)) ∧ Kp [] w w')

theorem index_ct (l : List Atom) (a : Option Addr) (cap : Nat) (f : FuncId) (captured : Array Value) (p : Atom → Bool) (w : World) (hl : l.length < 1000000) {N : Nat} (hv : Atoms N w.heap a l) (hf : ∀ x ∈ l, ∀ w', Kp [] w w' → FnOk f captured w' p x) :
    CallOk Try.prog 45 ∧ Calls Try.prog 45 #[.slice a l.length cap, .func (.func f) #[] captured] w (fun e w' => e = .returned (.int .i64 (idxF p l 0)) ∧ Kp [] w w') := by
  refine ⟨⟨_, Try.func45, rfl, by decide⟩, ?_⟩
  refine calls_of (args := [_, _]) 19 [.tmp 4] τok Try.func45 rfl rfl rfl (Nat.le_of_ble_eq_true rfl) ?_
  refine loop τok (σ := Nat) (fun k => [(0, .slice a l.length cap), (1, .func (.func f) #[] captured), (7, .int .i64 l.length), (8, .int .i64 k)])
    (fun k w' => k ≤ l.length ∧ idxF p l 0 = idxF p (l.drop k) k ∧ Kp [] w w') (fun k => l.length - k) 0 ⟨rfl, rfl, rfl, rfl, trivial⟩ ⟨Nat.zero_le _, rfl, Kp.refl _ _⟩ ?_
  rintro k w1 ⟨hk, hr, hkp⟩
  refine br_dec (fun h5 => ?_) (fun h5 => ?_)
  · have hlt : k < l.length := by omega
    obtain ⟨x, hx⟩ : ∃ x, x = l.getD k default := ⟨_, rfl⟩
    rw [drop_cons l k hlt, ← hx] at hr
    rcases hv.1 with h0 | ⟨b, o, rfl, hb, hc⟩
    · omega
    have hc0 := (hc k 0 hlt (by omega)).kp hkp (by simp)
    have hc1 := (hc k 1 hlt (by omega)).kp hkp (by simp)
    simp only [if_true, if_false, Nat.one_ne_zero, ← hx] at hc0 hc1
    refine ix k rfl hlt ?_
    refine ldN [.int .i64 x.var, .int .i64 x.add] rfl (at2 hc0 hc1) ?_
    refine ev_call (hf x (hx ▸ getD_mem l k hlt) w1 hkp) ?_
    rintro e w2 ⟨rfl, hk2⟩
    refine br (fun c => ?_) (fun c => ?_)
    · exact ⟨by rw [hr]; simp only [idxF]; rw [if_pos c]; rfl, hkp.tr hk2⟩
    · refine int64 (by omega) (by omega) ?_
      refine ⟨k + 1, by omega, rfl, ⟨rfl, rfl, rfl, rfl, trivial⟩, hlt, ?_, hkp.tr hk2⟩
      rw [hr]; simp only [idxF]; rw [if_neg (by simp [c])]; rfl
  · refine ⟨?_, hkp⟩
    rw [hr, List.drop_eq_nil_of_le (by omega)]
    rfl

theorem contains_ct (l : List Atom) (a : Option Addr) (cap : Nat) (f : FuncId) (captured : Array Value) (p : Atom → Bool) (w : World) (hl : l.length < 1000000) {N : Nat} (hv : Atoms N w.heap a l) (hf : ∀ x ∈ l, ∀ w', Kp [] w w' → FnOk f captured w' p x) :
    CallOk Try.prog 35 ∧ Calls Try.prog 35 #[.slice a l.length cap, .func (.func f) #[] captured] w (fun e w' => e = .returned (.bool (l.any p)) ∧ Kp [] w w') := by
  refine ⟨⟨_, Try.func35, rfl, by decide⟩, ?_⟩
  refine calls_of (args := [_, _]) 9 [.tmp 4] τok Try.func35 rfl rfl rfl (Nat.le_of_ble_eq_true rfl) ?_
  refine ev_call (index_ct l a cap f captured p w hl hv hf) ?_
  rintro e w1 ⟨rfl, hk1⟩
  exact ⟨by rw [← idxF_ge p l 0 (by omega)]; rfl, hk1⟩

/-! ### Under -/
def okAtom (g : G) (x y : Atom) : Bool := match g x.var y.var with
  | none => false
  | some d => decide (x.add - y.add ≤ d)

theorem under1_ct {w : World} {bg bm bx : Nat} {g : G} (x y : Atom) (h0 : Cl w.heap bg 0 (.map (some bm))) (hg : Gr w.heap bm g) (h1 : Cl w.heap bx 0 (.int .i64 x.var)) (h2 : Cl w.heap bx 1 (.int .i64 x.add))
    (hx : 0 ≤ x.add ∧ x.add ≤ 1000) (hy : 0 ≤ y.add ∧ y.add ≤ 1000) : FnOk 36 #[.pointer (some ⟨bg, 0, none⟩), .pointer (some ⟨bx, 0, none⟩)] w (okAtom g x) y := by
  refine ⟨⟨_, Try.func36, rfl, by decide⟩, ?_⟩
  refine calls_of (args := [_, _, _]) 27 [.tmp 4] τok Try.func36 rfl rfl rfl (Nat.le_of_ble_eq_true rfl) ?_
  refine new fun b1 w1 hb1 hB1 hs1 hk1 => ?_
  refine ld (h0.kp hk1 (by simp)).cell ?_
  refine ld (h1.kp hk1 (by simp)).cell ?_
  refine ld (hB1.cl rfl).cell ?_
  refine run (gr_look (hg.kp hk1 (by simp)) x.var y.var true) ?_
  unfold okAtom
  cases hgo : g x.var y.var with
  | none => exact ⟨rfl, hk1⟩
  | some d =>
    refine ld (h2.kp hk1 (by simp)).cell ?_
    refine ld (hB1.cl rfl).cell ?_
    refine int64 (by omega) (by omega) ?_
    exact ⟨rfl, hk1⟩

def underF (vars : Int) (os : List Order) (a b : List Atom) : Bool := match closedF vars os with
  | .error _ => false
  | .ok g => rightF a vars && rightF b vars && a.all fun x => b.any (okAtom g x)

theorem right_adds {l : List Atom} {vars : Int} (h : rightF l vars = true) : l.length ≤ 4 ∧ ∀ x ∈ l, 0 ≤ x.add ∧ x.add ≤ 1000 ∧ 0 ≤ x.var ∧ x.var ≤ vars := by
  unfold rightF at h
  split at h
  · cases h
  · rename_i hc
    refine ⟨by omega, ?_⟩
    have gen : ∀ (l : List Atom) (last : Int), -1 ≤ last → rightGo vars l last = true → ∀ x ∈ l, 0 ≤ x.add ∧ x.add ≤ 1000 ∧ 0 ≤ x.var ∧ x.var ≤ vars := by
      intro l
      induction l with
      | nil => intro _ _ _ x hx; cases hx
      | cons y r ih =>
        intro last hl h x hx
        simp only [rightGo] at h
        split at h
        · cases h
        · rename_i hc
          rcases List.mem_cons.1 hx with rfl | hx
          · omega
          · exact ih y.var (by omega) h x hx
    exact gen l (-1) (by omega) h

theorem under_ct (vars : Int) (os : List Order) (la lb : List Atom) (ao aa ab : Option Addr) (co ca cb : Nat) (w : World) (ho : Orders w.heap.size w.heap ao os) (ha : Atoms w.heap.size w.heap aa la) (hb : Atoms w.heap.size w.heap ab lb) :
    CallOk Try.prog 12 ∧ Calls Try.prog 12 #[.int .i64 vars, .slice ao os.length co, .slice aa la.length ca, .slice ab lb.length cb] w (fun e w' => e = .returned (.bool (underF vars os la lb)) ∧ Kp [] w w') := by
  refine ⟨⟨_, Try.func12, rfl, by decide⟩, ?_⟩
  refine calls_of (args := [_, _, _, _]) 44 [.tmp 8] τok Try.func12 rfl rfl rfl (Nat.le_of_ble_eq_true rfl) ?_
  refine ev_call (closed_ct vars os ao co w ho) ?_
  rintro e w1 ⟨hk1, hcl⟩
  cases hc : closedF vars os with
  | error n =>
    rw [hc] at hcl
    simp only at hcl
    subst hcl
    have hn : n ≠ 0 := by
      rcases closedF_err hc with ⟨_, h⟩ | ⟨_, _, h⟩ | ⟨_, _, _, h⟩ | ⟨_, _, _, h, _⟩ <;> omega
    refine new fun b2 w2 hb2 hB2 hs2 hk2 => ?_
    refine st hB2 (by decide) rfl fun w3 hB3 hs3 hk3 => ?_
    refine br_yes hn ?_
    exact ⟨by unfold underF; rw [hc]; rfl, hk1.tr (hk2.newSt hb2 hk3)⟩
  | ok g =>
    rw [hc] at hcl
    obtain ⟨bm, rfl, hg, hbm⟩ := hcl
    have hu : underF vars os la lb = (rightF la vars && rightF lb vars && la.all fun x => lb.any (okAtom g x)) := by unfold underF; rw [hc]
    refine new fun b2 w2 hb2 hB2 hs2 hk2 => ?_
    refine st hB2 (by decide) rfl fun w3 hB3 hs3 hk3 => ?_
    have hk3' := hk2.newSt hb2 hk3
    have hk13 := hk1.tr hk3'
    have hg3 : Gr w3.heap bm g := hg.kp hk3' (by simp)
    refine ev_call (right_ct la aa ca vars w3 (ha.kp hk13 (Nat.le_refl _))) ?_
    rintro e w4 ⟨rfl, hk4⟩
    refine br (fun c1 => ?_) (fun c1 => ?_)
    · have c1' : rightF la vars = false := by simpa using c1
      exact ⟨by rw [hu, c1']; rfl, hk13.tr hk4⟩
    have c1' : rightF la vars = true := by simpa using c1
    have hk14 := hk13.tr hk4
    refine ev_call (right_ct lb ab cb vars w4 (hb.kp hk14 (Nat.le_refl _))) ?_
    rintro e w5 ⟨rfl, hk5⟩
    refine br (fun c2 => ?_) (fun c2 => ?_)
    · have c2' : rightF lb vars = false := by simpa using c2
      exact ⟨by rw [hu, c1', c2']; rfl, hk14.tr hk5⟩
    have c2' : rightF lb vars = true := by simpa using c2
    have hk15 := hk14.tr hk5
    obtain ⟨la4, hadda⟩ := right_adds c1'
    obtain ⟨lb4, haddb⟩ := right_adds c2'
    have hk35 := hk4.tr hk5
    refine loop τok (σ := Nat) (fun k => [(3, .slice ab lb.length cb), (9, .pointer (some ⟨b2, 0, none⟩)), (33, .slice aa la.length ca), (34, .int .i64 la.length), (35, .int .i64 k)])
      (fun k w' => k ≤ la.length ∧ (la.all fun x => lb.any (okAtom g x)) = ((la.drop k).all fun x => lb.any (okAtom g x)) ∧ Kp [] w5 w') (fun k => la.length - k) 0 ⟨rfl, rfl, rfl, rfl, rfl, trivial⟩ ⟨Nat.zero_le _, rfl, Kp.refl _ _⟩ ?_
    rintro k w6 ⟨hk, hr, hk6⟩
    refine br_dec (fun h5 => ?_) (fun h5 => ?_)
    · have hlt : k < la.length := by omega
      obtain ⟨x, hx⟩ : ∃ x, x = la.getD k default := ⟨_, rfl⟩
      rw [drop_cons la k hlt, ← hx] at hr
      rcases ha.1 with h0 | ⟨b, o, rfl, hb', hcc⟩
      · omega
      have hk16 := hk15.tr hk6
      have hc0 := (hcc k 0 hlt (by omega)).kp hk16 (by simp)
      have hc1 := (hcc k 1 hlt (by omega)).kp hk16 (by simp)
      simp only [if_true, if_false, Nat.one_ne_zero, ← hx] at hc0 hc1
      refine ix k rfl hlt ?_
      refine ldN [.int .i64 x.var, .int .i64 x.add] rfl (at2 hc0 hc1) ?_
      refine new fun b7 w7 hb7 hB7 hs7 hk7 => ?_
      refine stN hB7 rfl (by simp [Value.oneCell']) fun w8 hB8 hs8 hk8 => ?_
      have hk68 := hk7.newSt hb7 hk8
      have hk38 := (hk35.tr hk6).tr hk68
      have hxm : x ∈ la := hx ▸ getD_mem la k hlt
      refine ev_call (contains_ct lb ab cb 36 _ (okAtom g x) w8 (by omega) (hb.kp (hk16.tr hk68) (Nat.le_refl _)) (fun y hy w' hkw => ?_)) ?_
      · exact under1_ct x y ((hB3.cl rfl).kp (hk38.tr hkw) (by simp)) (hg3.kp (hk38.tr hkw) (by simp)) ((hB8.cl rfl).kp hkw (by simp)) ((hB8.cl rfl).kp hkw (by simp)) ⟨(hadda x hxm).1, (hadda x hxm).2.1⟩ ⟨(haddb y hy).1, (haddb y hy).2.1⟩
      rintro e w9 ⟨rfl, hk9⟩
      refine br (fun c => ?_) (fun c => ?_)
      · have c' : lb.any (okAtom g x) = false := by simpa using c
        refine ⟨?_, (hk16.tr hk68).tr hk9⟩
        rw [hu, c1', c2', hr]
        simp only [List.all_cons, c']
        rfl
      · have c' : lb.any (okAtom g x) = true := by simpa using c
        refine int64 (by omega) (by omega) ?_
        refine ⟨k + 1, by omega, rfl, ⟨rfl, rfl, rfl, rfl, rfl, trivial⟩, hlt, ?_, (hk6.tr hk68).tr hk9⟩
        rw [hr]
        simp only [List.all_cons, c', Bool.true_and]
    · refine ⟨?_, hk15.tr hk6⟩
      rw [hu, c1', c2', hr, List.drop_eq_nil_of_le (by omega)]
      rfl

/-! ### Check, Gap -/
def checkF (vars : Int) (os : List Order) : Int := match closedF vars os with
  | .error n => n
  | .ok _ => 0
theorem check_ct (vars : Int) (os : List Order) (ao : Option Addr) (co : Nat) (w : World) (ho : Orders w.heap.size w.heap ao os) :
    CallOk Try.prog 14 ∧ Calls Try.prog 14 #[.int .i64 vars, .slice ao os.length co] w (fun e w' => e = .returned (.int .i64 (checkF vars os)) ∧ Kp [] w w') := by
  refine ⟨⟨_, Try.func14, rfl, by decide⟩, ?_⟩
  refine calls_of (args := [_, _]) 14 [.tmp 4] τok Try.func14 rfl rfl rfl (Nat.le_of_ble_eq_true rfl) ?_
  refine ev_call (closed_ct vars os ao co w ho) ?_
  rintro e w1 ⟨hk1, hcl⟩
  unfold checkF
  cases hc : closedF vars os with
  | error n => rw [hc] at hcl; simp only at hcl; subst hcl; exact ⟨rfl, hk1⟩
  | ok g => rw [hc] at hcl; obtain ⟨bm, rfl, hg, hbm⟩ := hcl; exact ⟨rfl, hk1⟩

def gapF (vars : Int) (os : List Order) (low high : Int) : Int × Bool := match closedF vars os with
  | .error _ => (0, false)
  | .ok g => ((g low high).getD 0, (g low high).isSome)
theorem gap_ct (vars : Int) (os : List Order) (low high : Int) (ao : Option Addr) (co : Nat) (w : World) (ho : Orders w.heap.size w.heap ao os) :
    CallOk Try.prog 15 ∧ Calls Try.prog 15 #[.int .i64 vars, .slice ao os.length co, .int .i64 low, .int .i64 high] w (fun e w' => e = .returned (.tuple #[.int .i64 (gapF vars os low high).1, .bool (gapF vars os low high).2]) ∧ Kp [] w w') := by
  refine ⟨⟨_, Try.func15, rfl, by decide⟩, ?_⟩
  refine calls_of (args := [_, _, _, _]) 32 [.tmp 8, .tmp 9] τok Try.func15 rfl rfl rfl (Nat.le_of_ble_eq_true rfl) ?_
  refine ev_call (closed_ct vars os ao co w ho) ?_
  rintro e w1 ⟨hk1, hcl⟩
  unfold gapF
  cases hc : closedF vars os with
  | error n =>
    rw [hc] at hcl; simp only at hcl; subst hcl
    have hn : n ≠ 0 := by
      rcases closedF_err hc with ⟨_, h⟩ | ⟨_, _, h⟩ | ⟨_, _, _, h⟩ | ⟨_, _, _, h, _⟩ <;> omega
    refine br_yes hn ?_
    exact ⟨rfl, hk1⟩
  | ok g =>
    rw [hc] at hcl; obtain ⟨bm, rfl, hg, hbm⟩ := hcl
    refine run (gr_look hg low high true) ?_
    exact ⟨rfl, hk1⟩
end Go.Proofs.Ytbgiljognlbkhaa
