/-
  Own texts put together: EmO, EmP, EmQ, EmR, EmS.
-/
import Derived.Test.YtjpdkcejkogciaaDoorMg14
import Derived.Maps.OwnSet
import Derived.Maps.Range
/-
  Reference 21: what arms holds in memory.
-/
set_option linter.unusedSimpArgs false
set_option linter.unusedVariables false
namespace Cd
open Go Go.Wx
def rVal : Rd Value where
  sz := 1
  den _ cs x := cs = [x] ∧ x.oneCell' = true
  len := by rintro _ cs x ⟨rfl, _⟩; rfl
  mono := by rintro _ _ cs x _ h; exact h
  one := by rintro _ cs x ⟨rfl, h⟩ u hu; simp at hu; subst hu; exact h
theorem flatV : Flat rVal := fun _ _ _ _ h => h
/-- new cells that two rows do not own -/
def Av (lo : Nat) (v1 v2 : Value) (w : World) : Mem := fun b o u => lo ≤ b ∧ some b ≠ v1.ownBlock ∧ some b ≠ v2.ownBlock ∧ Cu w.heap b o u
section
variable {lo : Nat} {v1 v2 v' : Value} {w w' : World}
theorem av_l (hkp : Kp v1.ownBlock.toList w w') (hb : v'.ownBlock = v1.ownBlock ∨ v'.ownBlock = some w.heap.size) : ∀ b o u, Av lo v1 v2 w b o u → Av lo v' v2 w' b o u := fun b o u hu => by
  refine ⟨hu.1, ?_, hu.2.2.1, hu.2.2.2.kp hkp (by simpa using fun e => hu.2.1 e.symm)⟩
  rcases hb with e1 | e1
  · rw [e1]; exact hu.2.1
  · rw [e1]
    have := hu.2.2.2.lt
    intro e2
    have := Option.some.inj e2
    omega
theorem av_r (hkp : Kp v2.ownBlock.toList w w') (hb : v'.ownBlock = v2.ownBlock ∨ v'.ownBlock = some w.heap.size) : ∀ b o u, Av lo v1 v2 w b o u → Av lo v1 v' w' b o u := fun b o u hu => by
  refine ⟨hu.1, hu.2.1, ?_, hu.2.2.2.kp hkp (by simpa using fun e => hu.2.2.1 e.symm)⟩
  rcases hb with e1 | e1
  · rw [e1]; exact hu.2.2.1
  · rw [e1]
    have := hu.2.2.2.lt
    intro e2
    have := Option.some.inj e2
    omega
theorem av_tr (hkp : Kp [] w w') : ∀ b o u, Av lo v1 v2 w b o u → Av lo v1 v2 w' b o u := fun b o u hu => ⟨hu.1, hu.2.1, hu.2.2.1, hu.2.2.2.kp hkp (by simp)⟩
theorem av_new : ∀ b o u, Av lo v1 v2 w b o u → New lo w b o u := fun b o u hu => ⟨hu.1, hu.2.2.2⟩
/-- the block of a grown row is none of another's -/
theorem apart_grow {v : Value} {g : Nat} (hb : v'.ownBlock = v.ownBlock ∨ v'.ownBlock = some w.heap.size) (hlt : ∀ g, v2.ownBlock = some g → g < w.heap.size) (h : ∀ g, v.ownBlock = some g → v2.ownBlock ≠ some g) (hg : v'.ownBlock = some g) : v2.ownBlock ≠ some g := by
  rcases hb with e | e
  · exact h g (by rw [← e]; exact hg)
  · intro e2
    have := hlt g e2
    rw [e] at hg
    have := Option.some.inj hg
    omega
end
end Cd
namespace Go.Proofs.YtjpdkcejkogciaaDoor
open Go.Wx Cd

/-- the codes and the numbers of the arms -/
structure Ar0 (lo : Nat) (u : World) (vb vt : Value) (ls : List (List Ins)) (ts : List Int) : Prop where
  ob : ∃ rb, Own rVal 39 lo u vb rb ∧ All2 (fun (v : Value) (l : List Ins) => ∃ a c, v = .slice a l.length c ∧ Sl rIns (Av lo vb vt u) a l) rb ls
  ot : Own rInt 3 lo u vt ts
  ap : ∀ g, vb.ownBlock = some g → vt.ownBlock ≠ some g
section
variable {lo : Nat} {u z : World} {vb vt : Value} {ls : List (List Ins)} {ts : List Int}
theorem Ar0.tr (h : Ar0 lo u vb vt ls ts) (k : Kp [] u z) : Ar0 lo z vb vt ls ts := by
  obtain ⟨⟨rb, h1, h2⟩, h3, h4⟩ := h
  exact ⟨⟨rb, h1.kp k, h2.mono fun v l hx => by obtain ⟨a, c, e, hs⟩ := hx; exact ⟨a, c, e, hs.mono (av_tr k)⟩⟩, h3.kp k, h4⟩
theorem Ar0.pushB (h : Ar0 lo u vb vt ls ts) (hk : Kp [] u z) {l : List Ins} {a : Option Addr} {ca : Nat} (hl : Sl rIns (New u.heap.size z) a l) {b c ty : Nat} (hc : Cl z.heap b 0 (.slice a l.length ca)) (hn : ls.length + 1 ≤ 1048576) {K : Value → World → Prop}
    (hK : ∀ vb' z', Ar0 lo z' vb' vt (ls ++ [l]) ts → Kp vb.ownBlock.toList z z' → (∀ g, vb.ownBlock = some g → lo ≤ g) → K vb' z') : EvRun Tryd.prog (Builtin.append_ #[37, 37] ty #[vb, .slice (some ⟨b, 0, none⟩) 1 c]) z K := by
  have hbt := h.ot.block
  have hbb : ∀ g, vb.ownBlock = some g → lo ≤ g ∧ g < u.heap.size := by obtain ⟨⟨rb, h1, _⟩, _, _⟩ := h; exact h1.block
  have hlo : lo ≤ u.heap.size := h.ot.low
  obtain ⟨⟨rb, h1, h2⟩, h3, h4⟩ := h.tr hk
  have hlen := h2.length
  refine h1.ap1 τok rfl rfl Nat.one_pos (.slice a l.length ca) [.slice a l.length ca] ⟨rfl, rfl⟩ (fun j u hj => by
    match j with
    | 0 => simp at hj; subst hj; exact hc
    | j + 1 => simp at hj) (by omega) (by simp only [maxLen]; omega) fun vb' z' hO hk3 hb3 => ?_
  refine hK vb' z' ⟨⟨_, hO, (h2.mono fun v l hx => ?_).append ⟨⟨a, ca, rfl, ?_⟩, trivial⟩⟩, ?_, ?_⟩ hk3 (fun g hg => (hbb g hg).1)
  · obtain ⟨a, c, e, hs⟩ := hx
    exact ⟨a, c, e, hs.mono (av_l hk3 hb3)⟩
  · refine (hl.mono fun b o t ht => ?_).mono (av_l (v2 := vt) hk3 hb3)
    refine ⟨Nat.le_trans hlo ht.1, fun e => ?_, fun e => ?_, ht.2⟩
    · have := (hbb b e.symm).2; have := ht.1; omega
    · have := (hbt b e.symm).2; have := ht.1; omega
  · exact h3.kpn flatI hk3 fun g hg hx => h4 g (by simpa using hx) hg
  · exact fun g hg => apart_grow hb3 (fun g hg => (h3.block g hg).2) h4 hg
theorem Ar0.pushT (h : Ar0 lo u vb vt ls ts) {q : Int} (hq : I64 q) {b c ty : Nat} (hc : Cl u.heap b 0 (.int .i64 q)) (hn : ts.length + 1 ≤ 1048576) {K : Value → World → Prop}
    (hK : ∀ vt' z', Ar0 lo z' vb vt' ls (ts ++ [q]) → Kp vt.ownBlock.toList u z' → (∀ g, vt.ownBlock = some g → lo ≤ g) → K vt' z') : EvRun Tryd.prog (Builtin.append_ #[48, 48] ty #[vt, .slice (some ⟨b, 0, none⟩) 1 c]) u K := by
  obtain ⟨⟨rb, h1, h2⟩, h3, h4⟩ := h
  refine h3.ap1 τok rfl rfl Nat.one_pos q [.int .i64 q] ⟨rfl, hq⟩ (fun j u hj => by
    match j with
    | 0 => simp at hj; subst hj; exact hc
    | j + 1 => simp at hj) (by omega) (by simp only [maxLen]; omega) fun vt' z' hO hk3 hb3 => ?_
  refine hK vt' z' ⟨⟨rb, h1.kpn flatV hk3 fun g hg hx => h4 g hg (by simpa using hx), h2.mono fun v l hx => ?_⟩, hO, fun g hg e => ?_⟩ hk3 (fun g hg => (h3.block g hg).1)
  · obtain ⟨a, c, e, hs⟩ := hx
    exact ⟨a, c, e, hs.mono (av_r hk3 hb3)⟩
  · exact apart_grow (v2 := vb) hb3 (fun g hg => (h1.block g hg).2) (fun g hg e => h4 g e hg) e hg
theorem Ar0.done (h : Ar0 lo u vb vt ls ts) (hn : ls.length ≤ 1048576) (hn' : ts.length ≤ 1048576) : (∃ a c, vb = .slice a ls.length c ∧ Sl (rSl rIns) (New lo u) a ls) ∧ ∃ a c, vt = .slice a ts.length c ∧ Sl rInt (New lo u) a ts := by
  obtain ⟨⟨rb, h1, h2⟩, h3, h4⟩ := h
  have hlen := h2.length
  refine ⟨?_, h3.den (by omega)⟩
  obtain ⟨a, c, hv, hs⟩ := h1.den (by omega)
  refine ⟨a, c, by rw [hv, hlen], sl_of hs h2 rfl ?_⟩
  rintro r x b o ⟨a', c', rfl, hs'⟩ ⟨cs, ⟨rfl, _⟩, hcc⟩
  exact ⟨_, ⟨a', c', rfl, hs'.mono av_new⟩, hcc⟩
end

/-- an instruction's raw form, apart from two rows -/
def RawAv (lo : Nat) (v vt : Value) (w : World) (r : Raw) (x : Ins) : Prop := r.op = x.op ∧ r.a = x.a ∧ r.b = x.b ∧ I64 x.op ∧ I64 x.a ∧ I64 x.b ∧ ∃ at' ct, r.to = .slice at' x.to.length ct ∧ Sl rInt (Av lo v vt w) at' x.to
/-- the code of a switch as it grows: its head's numbers are a row of their own -/
structure Ar2 (lo : Nat) (u : World) (v vt : Value) (a b : Int) (to : List Int) (done : List Ins) : Prop where
  ob : ∃ rs, Own rRaw 50 lo u v (⟨9, a, b, vt⟩ :: rs) ∧ All2 (RawAv lo v vt u) rs done
  ot : Own rInt 3 lo u vt to
  ap : ∀ g, v.ownBlock = some g → vt.ownBlock ≠ some g
  ia : I64 a
  ib : I64 b
section
variable {lo : Nat} {u z : World} {v vt : Value} {a b : Int} {to : List Int} {done : List Ins}
theorem RawAv.mono {lo : Nat} {v vt v' vt' : Value} {w w' : World} {r : Raw} {x : Ins} (h : RawAv lo v vt w r x) (hm : ∀ b o u, Av lo v vt w b o u → Av lo v' vt' w' b o u) : RawAv lo v' vt' w' r x := by
  obtain ⟨h1, h2, h3, h4, h5, h6, a, c, h7, h8⟩ := h
  exact ⟨h1, h2, h3, h4, h5, h6, a, c, h7, h8.mono hm⟩
theorem Ar2.tr (h : Ar2 lo u v vt a b to done) (k : Kp [] u z) : Ar2 lo z v vt a b to done := by
  obtain ⟨⟨rb, h1, h2⟩, h3, h4, h5, h6⟩ := h
  exact ⟨⟨rb, h1.kp k, h2.mono fun v l hx => hx.mono (av_tr k)⟩, h3.kp k, h4, h5, h6⟩
theorem Ar2.start {g : Nat} (hlo : lo ≤ g) (hB : Bk u.heap g [.int .i64 9, .int .i64 a, .int .i64 b, .slice none 0 0] 50) (ha : I64 a) (hb : I64 b) : Ar2 lo u (.slice (some ⟨g, 0, none⟩) 1 1) (.slice none 0 0) a b [] [] := by
  refine ⟨⟨[], ⟨⟨[[.int .i64 9, .int .i64 a, .int .i64 b, .slice none 0 0]], own_bk (n := 1) hB hlo (by simp [rRaw]) (by simp [maxLen]), ⟨rfl, rfl⟩, trivial⟩, Nat.le_trans hlo (Nat.le_of_lt hB.lt)⟩, trivial⟩, Own.nil _ _ (Nat.le_trans hlo (Nat.le_of_lt hB.lt)), ?_, ha, hb⟩
  intro g _ h
  cases h
theorem Ar2.at (h : Ar2 lo u v vt a b to done) (hn : done.length ≤ 1048576) : ∃ g cap, v = .slice (some ⟨g, 0, none⟩) (done.length + 1) cap ∧ Cl u.heap g (0 + 0 * 4 + 3) vt ∧ lo ≤ g := by
  obtain ⟨⟨rs, h1, h2⟩, h3, h4, h5, h6⟩ := h
  have hlen := h2.length
  obtain ⟨a', cap, hv, hsl⟩ := h1.den (by simp; omega)
  obtain ⟨g, o, rfl, hc⟩ := hsl.at (i := 0) (by simp)
  obtain ⟨cs, ⟨rfl, _⟩, hcc⟩ := hc 0 _ rfl
  have hcell := hcc 3 _ rfl
  have ho : o = 0 := by
    obtain ⟨css, h1', _⟩ := h1.row
    rcases h1'.2 with ⟨e, h0⟩ | ⟨g', cap', cur, e, _⟩
    · rw [hv] at e; cases e
    · rw [hv] at e
      injection e with e1 e2 e3
      have e1 := Option.some.inj e1
      injection e1
  subst ho
  exact ⟨g, cap, by rw [hv]; simp [hlen], hcell.2.cl, (h1.block g (by rw [hv]; rfl)).1⟩
/-- two numbers more in the head -/
theorem Ar2.push (h : Ar2 lo u v vt a b to done) {q r : Int} (hq : I64 q) (hr : I64 r) {bb c ty : Nat} (hc : Bk u.heap bb [.int .i64 q, .int .i64 r] 3) (hn : to.length + 2 ≤ 1048576) {K : Value → World → Prop}
    (hK : ∀ vt' z', vt'.oneCell' = true → Kp vt.ownBlock.toList u z' → (∀ g cap, v = .slice (some ⟨g, 0, none⟩) (done.length + 1) cap → ∀ K', (∀ z'', Ar2 lo z'' v vt' a b (to ++ [q, r]) done → Kp [g] z' z'' → K' z'') → EvSt z' ⟨g, 0 + 0 * 4 + 3, none⟩ vt' K') → K vt' z') : EvRun Tryd.prog (Builtin.append_ #[48, 48] ty #[vt, .slice (some ⟨bb, 0, none⟩) 2 c]) u K := by
  obtain ⟨⟨rs, h1, h2⟩, h3, h4, h5, h6⟩ := h
  refine h3.ap τok rfl rfl Nat.one_pos [q, r] [[.int .i64 q], [.int .i64 r]] rfl ⟨⟨rfl, hq⟩, ⟨rfl, hr⟩, trivial⟩ (.inr ⟨bb, 0, rfl, fun i y j t hi hj => by
    match i, hi with
    | 0, hi =>
      simp at hi; subst hi
      match j, hj with
      | 0, hj => simp at hj; subst hj; exact hc.cl rfl
      | j + 1, hj => simp at hj
    | 1, hi =>
      simp at hi; subst hi
      match j, hj with
      | 0, hj => simp at hj; subst hj; exact hc.cl rfl
      | j + 1, hj => simp at hj
    | i + 2, hi => simp at hi⟩) (by omega) (by simp only [maxLen]; omega) fun vt' z1 hO hk hb3 => ?_
  have h1' : Own rRaw 50 lo z1 v (⟨9, a, b, vt⟩ :: rs) := h1.kpn flatRaw hk fun g hg hx => h4 g hg (by simpa using hx)
  refine hK vt' z1 (own_one hO) hk fun g cap hvg K' hK' => ?_
  obtain ⟨g', cap', hvo, hgl, hst⟩ := h1'.st (i := 0) (j := 3) (x := ⟨9, a, b, vt⟩) (y := ⟨9, a, b, vt'⟩) rfl (by decide) (own_one hO) (fun cs hcs => by
    obtain ⟨rfl, _⟩ := hcs
    exact ⟨rfl, own_one hO⟩)
  have : g = g' := by
    rw [hvg] at hvo
    injection hvo with e1
    have e1 := Option.some.inj e1
    injection e1
  subst this
  have hap : ∀ g, v.ownBlock = some g → vt'.ownBlock ≠ some g := fun g hg e => apart_grow (v2 := v) hb3 (fun g hg => (h1.block g hg).2) (fun g hg e => h4 g e hg) e hg
  have hgo : v.ownBlock = some g := by rw [hvg]; rfl
  refine hst fun z2 hO2 hs2 hk2 => hK' z2 ⟨⟨rs, hO2, h2.mono fun r x hx => (hx.mono (av_r hk hb3)).mono fun bq oq tq ht => ⟨ht.1, ht.2.1, ht.2.2.1, ht.2.2.2.kp hk2 fun hx => ?_⟩⟩, hO.kpn flatI hk2 fun g' hg' hx => ?_, hap, h5, h6⟩ hk2
  · have hx : g' = g := by simpa using hx
    subst hx
    exact hap _ hgo hg'
  · have hx : bq = g := by simpa using hx
    exact ht.2.1 (by rw [hx, hgo])
end
end Go.Proofs.YtjpdkcejkogciaaDoor

/-
  Reference 21: what arms holds in memory: behind, goto, end.
-/
set_option linter.unusedSimpArgs false
set_option linter.unusedVariables false
namespace Go.Proofs.YtjpdkcejkogciaaDoor
open Go.Wx Cd

section
variable {lo : Nat} {u z : World} {v vt : Value} {a b : Int} {to : List Int} {done : List Ins}
theorem Ar2.behind (h : Ar2 lo u v vt a b to done) (hn : done.length + 1 ≤ 1048576) {lb : List Ins} {ab : Option Addr} {cb : Nat} {l2 : Nat} (hl2 : l2 ≤ lo) (hb : Sl rIns (New l2 u) ab lb) (hto : ToOk 1048576 lb) :
    CallOk Tryd.prog 77 ∧ Calls Tryd.prog 77 #[v, .slice ab lb.length cb] u (fun e w' => ∃ v', e = .returned v' ∧ Ar2 lo w' v' vt a b to (done ++ lb.map (shift (done.length + 1))) ∧ Kp [] u w') := by
  obtain ⟨⟨rs, h1, h2⟩, h3, h4, h5, h6⟩ := h
  have hlen := h2.length
  obtain ⟨av, cv, hv, hs⟩ := h1.den (by simp; omega)
  have hlo := h1.low
  have := behindR_ct (New.sub l2 u) _ av cv (hs.mono fun b o t ht => ⟨Nat.le_trans hl2 ht.1, ht.2⟩) lb ab cb hb (by simp; omega) hto
  rw [← hv] at this
  refine ⟨this.1, ?_⟩
  refine Calls.mono this.2 fun e w' he => ?_
  obtain ⟨v', rb, rfl, hO, hB, hk⟩ := he
  have hrl : (⟨9, a, b, vt⟩ :: rs : List Raw).length = done.length + 1 := by simp [hlen]
  rw [hrl] at hB
  have r1 : All2 (RawAv lo v' vt w') rs done := h2.mono fun r x hx => hx.mono fun bb o t ht =>
    ⟨ht.1, fun e => by have := ht.2.2.2.lt; have := (hO.block bb e.symm).1; omega, ht.2.2.1, ht.2.2.2.kp hk (by simp)⟩
  have r2 : All2 (RawAv lo v' vt w') rb (lb.map (shift (done.length + 1))) := hB.mono fun r x hx => by
    obtain ⟨e1, e2, e3, e4, e5, e6, a', c', e7, e8⟩ := hx
    exact ⟨e1, e2, e3, e4, e5, e6, a', c', e7, e8.mono fun bb o t ht => ⟨Nat.le_trans hlo ht.1, ht.2.1, fun e => by have := (h3.block bb e.symm).2; have := ht.1; omega, ht.2.2⟩⟩
  have r3 : ∀ g, v'.ownBlock = some g → vt.ownBlock ≠ some g := fun g hg e => by
    have := (hO.block g hg).1
    have := (h3.block g e).2
    omega
  exact ⟨v', rfl, ⟨⟨rs ++ rb, by simpa using hO.low' hlo, r1.append r2⟩, h3.kp hk, r3, h5, h6⟩, hk⟩
theorem Ar2.goto (h : Ar2 lo u v vt a b to done) (hk : Kp [] u z) (hn : done.length + 2 ≤ 1048576) {q : Int} (hq : I64 q) {be bb c ty : Nat} (he : u.heap.size ≤ be) (hBe : Bk z.heap be [.int .i64 q] 3) (hBb : Bk z.heap bb [.int .i64 13, .int .i64 0, .int .i64 0, .slice (some ⟨be, 0, none⟩) 1 1] 50) {K : Value → World → Prop}
    (hK : ∀ v' z', Ar2 lo z' v' vt a b to (done ++ [⟨13, 0, 0, [q]⟩]) → Kp v.ownBlock.toList z z' → (∀ g, v.ownBlock = some g → lo ≤ g) → K v' z') : EvRun Tryd.prog (Builtin.append_ #[39, 39] ty #[v, .slice (some ⟨bb, 0, none⟩) 1 c]) z K := by
  have hbv : ∀ g, v.ownBlock = some g → g < u.heap.size := by obtain ⟨⟨rs, h1, h2⟩, h3, h4, h5, h6⟩ := h; exact fun g hg => (h1.block g hg).2
  have hbt : ∀ g, vt.ownBlock = some g → g < u.heap.size := fun g hg => (h.ot.block g hg).2
  have hlo : lo ≤ u.heap.size := h.ot.low
  obtain ⟨⟨rs, h1, h2⟩, h3, h4, h5, h6⟩ := h.tr hk
  have hlen := h2.length
  refine h1.ap1 τok rfl rfl (by decide) ⟨13, 0, 0, .slice (some ⟨be, 0, none⟩) 1 1⟩ [.int .i64 13, .int .i64 0, .int .i64 0, .slice (some ⟨be, 0, none⟩) 1 1] ⟨rfl, rfl⟩ (fun j t hj => by rw [Nat.zero_add]; exact hBb.cl hj) (by simp; omega) (by simp [maxLen]; omega) fun v' z' hO hk3 hb3 => ?_
  have hbe : be ∉ v.ownBlock.toList := fun hx => by have := hbv be (by simpa using hx); omega
  refine hK v' z' ⟨⟨rs ++ [⟨13, 0, 0, .slice (some ⟨be, 0, none⟩) 1 1⟩], by simpa using hO, (h2.mono fun r x hx => hx.mono (av_l hk3 hb3)).append ⟨?_, trivial⟩⟩, h3.kpn flatI hk3 fun g hg hx => h4 g (by simpa using hx) hg, fun g hg => apart_grow hb3 (fun g hg => (h3.block g hg).2) h4 hg, h5, h6⟩ hk3 (fun g hg => (h1.block g hg).1)
  refine ⟨rfl, rfl, rfl, by constructor <;> simp, by constructor <;> simp, by constructor <;> simp, _, 1, rfl, ?_⟩
  have hsl : Sl rInt (Av lo v vt z) (some ⟨be, 0, none⟩) [q] := by
    refine ⟨by simp, .inr ⟨be, 0, rfl, fun i x hi => ?_⟩⟩
    match i, hi with
    | 0, hi =>
      simp at hi
      subst hi
      refine ⟨_, ⟨rfl, hq⟩, fun j t hj => ⟨by omega, fun e => hbe (by simp [← e]), fun e => by have := hbt be e.symm; omega, _, _, hBe, ?_⟩⟩
      rw [show 0 + 0 * rInt.sz + j = j by simp, List.getElem?_toArray]
      exact hj
  exact hsl.mono (av_l hk3 hb3)
theorem Ar2.done_ (h : Ar2 lo u v vt a b to done) (hn : done.length + 1 ≤ 1048576) (hn' : to.length ≤ 1048576) : ∃ av cv, v = .slice av (⟨9, a, b, to⟩ :: done : List Ins).length cv ∧ Sl rIns (New lo u) av (⟨9, a, b, to⟩ :: done) := by
  obtain ⟨⟨rs, h1, h2⟩, h3, h4, h5, h6⟩ := h
  have hlen := h2.length
  obtain ⟨av, cv, hv, hs⟩ := h1.den (by simp; omega)
  obtain ⟨at', ct, hvt, hst⟩ := h3.den (by omega)
  refine ⟨av, cv, by rw [hv]; simp [hlen], ?_⟩
  have hall : All2 (RawC (New lo u)) (⟨9, a, b, vt⟩ :: rs) (⟨9, a, b, to⟩ :: done) := by
    refine ⟨⟨rfl, rfl, rfl, by constructor <;> simp, h5, h6, at', ct, hvt, hst⟩, h2.mono fun r x hx => ?_⟩
    obtain ⟨e1, e2, e3, e4, e5, e6, a', c', e7, e8⟩ := hx
    exact ⟨e1, e2, e3, e4, e5, e6, a', c', e7, e8.mono av_new⟩
  refine sl_of hs hall rfl ?_
  rintro r x b o ⟨e1, e2, e3, i1, i2, i3, a'', ct, hto', hsl'⟩ ⟨cs, ⟨rfl, _⟩, hcc⟩
  refine ⟨_, ⟨a'', ct, rfl, hsl', i1, i2, i3⟩, fun j u hu => ?_⟩
  rw [← e1, ← e2, ← e3, ← hto'] at hu
  exact hcc j u hu
end
end Go.Proofs.YtjpdkcejkogciaaDoor

/-
  Reference 21: arms.
-/
set_option linter.unusedSimpArgs false
set_option linter.unusedVariables false
namespace Cd
open Go Go.Wx
theorem rows_drop : ∀ (l : List Tr) (j : Nat) (r : List Nd), (rows l ++ r).drop (tsizes (l.take j)) = rows (l.drop j) ++ r
  | l, 0, r => by simp [tsizes]
  | [], j + 1, r => by simp [tsizes]
  | x :: l, j + 1, r => by
    simp only [List.take_succ_cons, tsizes, List.drop_succ_cons, rows, List.append_assoc]
    rw [← row_len x, List.drop_length_add_append]
    exact rows_drop l j r
theorem tsizes_take : ∀ (l : List Tr) (j : Nat) (x : Tr), l[j]? = some x → tsizes (l.take (j + 1)) = tsizes (l.take j) + tsize x
  | [], j, x, h => by simp at h
  | y :: l, 0, x, h => by simp at h; subst h; simp [tsizes]
  | y :: l, j + 1, x, h => by
    simp only [List.take_succ_cons, tsizes]
    have := tsizes_take l j x (by simpa using h)
    omega
theorem tsizes_le : ∀ (l : List Tr) (j : Nat), tsizes (l.take j) ≤ tsizes l
  | l, 0 => by simp [tsizes]
  | [], j + 1 => by simp
  | y :: l, j + 1 => by
    simp only [List.take_succ_cons, tsizes]
    have := tsizes_le l j
    omega
theorem tsizes_mem : ∀ (l : List Tr) (x : Tr), x ∈ l → tsize x ≤ tsizes l
  | y :: l, x, h => by
    simp only [tsizes]
    rcases List.mem_cons.1 h with rfl | h
    · omega
    · have := tsizes_mem l x h
      omega
end Cd
namespace Go.Proofs.YtjpdkcejkogciaaDoor
open Go.Wx Cd

theorem eqI {x y : Int} (h : x = y) : some (Value.int .i64 x) = some (Value.int .i64 y) := by rw [h]
section
variable {p : Flt} {f : Nat} {C D : Mem} {rest : List Nd} {ps : List Int} {h : Int} {w : World}
set_option maxHeartbeats 4000000 in
theorem arms21_ct (hR : RowR p f) (n : Nd) (v : Tr) (arms : List Tr) (hb : (arms.length : Int) = n.b) (h16 : arms.length ≤ 16) (ha : I64 n.a) (hf : 1 + (tsize v + tsizes arms) ≤ f + 1) (hv : okT (cntF p) nxF v (ps.length, false)) (harms : ∀ x ∈ arms, okT (cntF p) nxF x (ps.length, true))
    (hS : Sub C w) (hD : Sub D w) (a : Option Addr) (cap : Nat) (hl : Sl rNd C a (n :: (row v ++ (rows arms ++ rest)))) (hcap : (n :: (row v ++ (rows arms ++ rest))).length ≤ cap)
    (ap : Option Addr) (cp : Nat) (hp : Sl rInt D ap ps) (h0 : 0 ≤ h) (hbd : h + 300 * (1 + (tsize v + tsizes arms)) ≤ 1099511627776) (hpl : ps.length + 16 * (1 + (tsize v + tsizes arms)) ≤ 1048576) (hsz : 1 + (tsize v + tsizes arms) ≤ 8192) :
    CallOk Tryd.prog 78 ∧ Calls Tryd.prog 78 #[.slice a (n :: (row v ++ (rows arms ++ rest))).length cap, .int .i64 h, .slice ap ps.length cp] w (fun e w' => ∃ a' c', e = .returned (.tuple #[.slice a' (genSw n (v :: arms) h ps 0).length c', .int .i64 (1 + (tsize v + tsizes arms))]) ∧ Sl rIns (New w.heap.size w') a' (genSw n (v :: arms) h ps 0) ∧ Cd1 w.heap.size w' (.slice a' (genSw n (v :: arms) h ps 0).length c') (genSw n (v :: arms) h ps 0) ∧ Kp [] w w') := by
  refine ⟨⟨_, Tryd.func78, rfl, by decide⟩, ?_⟩
  refine calls_of (args := [_, _, _]) 127 [.tmp 6, .tmp 7] τok Tryd.func78 rfl rfl rfl (Nat.le_of_ble_eq_true rfl) ?_
  obtain ⟨L, hL⟩ : ∃ L, n :: (row v ++ (rows arms ++ rest)) = L := ⟨_, rfl⟩
  obtain ⟨RES, hRES⟩ : ∃ r, genSw n (v :: arms) h ps 0 = r := ⟨_, rfl⟩
  rw [hL] at hl hcap
  rw [hL, hRES]
  have hdrop : ∀ j, L.drop (1 + tsize v + tsizes (arms.take j)) = rows (arms.drop j) ++ rest := fun j => by
    rw [← hL, show 1 + tsize v + tsizes (arms.take j) = (tsize v + tsizes (arms.take j)) + 1 by omega, List.drop_succ_cons, ← row_len v, List.drop_length_add_append]
    exact rows_drop arms j rest
  have hLlen : L.length = 1 + tsize v + tsizes arms + rest.length := by
    rw [← hL]
    simp [row_len, rows_len]
    omega
  have hLl := hl.1
  have hgv := gen_len v _ hv h ps 0
  have hgvb := glen_bd v _ hv
  -- the value
  obtain ⟨a1, hsl1, hSl1⟩ := hl.from hcap 1 (by omega)
  have hd1 : L.drop 1 = row v ++ (rows arms ++ rest) := by rw [← hL]; rfl
  rw [hd1] at hsl1 hSl1
  refine slcL' τok rfl 1 _ rfl (by omega) hsl1 ?_
  refine ev_call (hR v C D a1 (cap - 1) (rows arms ++ rest) h ps ap cp w (by omega) hv hS hD hSl1 (by rw [← hd1, List.length_drop]; omega) hp h0 (by omega) (by omega) (by omega)) ?_
  rintro e w1 ⟨av, cv, rfl, hsv, hCv, hk1⟩
  refine int64 (by omega) (by omega) ?_
  obtain ⟨_, _, ha0, _, _, i3, hcells⟩ := sl_nd hl (i := 0) (x := n) (by rw [← hL]; rfl)
  refine ixE ha0 0 rfl (by omega) ?_
  refine ld ((hS.tr hk1) _ _ _ (hcells 2 _ rfl)).cell ?_
  refine br_dec (fun g0 => ?_) (fun g0 => ?_)
  · have : arms = [] := List.length_eq_zero_iff.1 (by omega)
    subst this
    have : RES = gen v h ps 0 := by rw [← hRES]; simp [genSw]
    rw [this]
    refine ⟨av, cv, ?_, hsv, hCv, hk1⟩
    simp [one, tsizes, Int.add_comm]
  have hk01 : Kp [] w w1 := hk1
  refine lp τok (σ := Nat × Value × Value) (fun q => [(0, .slice a L.length cap), (1, .int .i64 h), (2, .slice ap ps.length cp), (8, .slice av (gen v h ps 0).length cv), (9, .int .i64 (1 + tsize v + tsizes (arms.take q.1) : Nat)), (10, .int .i64 n.b), (11, q.2.1), (12, q.2.2), (13, .int .i64 (1 + armsLen arms - armsLen (arms.drop q.1))), (14, .int .i64 q.1)])
    (fun q u => q.1 ≤ arms.length ∧ Kp [] w1 u ∧ Ar0 w1.heap.size u q.2.1 q.2.2 ((arms.take q.1).map fun x => gen x h ps 0) ((arms.take q.1).map fun x => x.n.a)) (fun q => arms.length - q.1) (0, .slice none 0 0, .slice none 0 0) rfl
    ⟨rfl, rfl, rfl, rfl, eqI (by simp [tsizes]; omega), rfl, rfl, rfl, eqI (by simp), rfl, trivial⟩ ⟨Nat.zero_le _, Kp.refl _ _, ⟨[], Own.nil _ _ (Nat.le_refl _), trivial⟩, Own.nil _ _ (Nat.le_refl _), fun g hg => by cases hg⟩ ?_
  rintro ⟨j, vb, vt⟩ u ⟨hj, hku, hA⟩
  simp only at hj hA
  have htj := tsizes_le arms j
  refine br_dec (fun g1 => ?_) (fun g1 => ?_)
  · have hjl : j < arms.length := by omega
    obtain ⟨x, hx, hdx⟩ := drop_get hjl
    have hxm := List.mem_of_getElem? hx
    have hokx := harms x hxm
    obtain ⟨nn, ks⟩ := x
    obtain ⟨o70, _⟩ := ok_ndF hokx
    have o70 : nn.op = 70 := by simpa using o70
    obtain ⟨y, rfl, hm0, hm16, hoky⟩ := ok_arm hokx o70
    obtain ⟨m, hm⟩ : ∃ m : Nat, nn.a = m := ⟨nn.a.toNat, by omega⟩
    have hgx : gen (.mk nn [y]) h ps 0 = underG (m : Int) (gen y) h ps 0 := by
      simp [gen, o70, genArm, hm]
    have htx : tsize (.mk nn [y]) = 1 + tsize y := by simp [tsize, tsizes]
    have htk := tsizes_take arms j _ hx
    have hts1 := tsizes_le arms (j + 1)
    have hdj := hdrop j
    rw [hdx] at hdj
    have hrow : rows (.mk nn [y] :: arms.drop (j + 1)) ++ rest = nn :: (row y ++ (rows (arms.drop (j + 1)) ++ rest)) := by simp [rows, row]
    rw [hrow] at hdj
    have hget : L[1 + tsize v + tsizes (arms.take j)]? = some nn := by
      have := congrArg (fun l => l[0]?) hdj
      simpa using this
    have hdj1 : L.drop (1 + tsize v + tsizes (arms.take j) + 1) = row y ++ (rows (arms.drop (j + 1)) ++ rest) := by
      rw [← List.drop_drop, hdj]
      rfl
    obtain ⟨K, hK⟩ : ∃ K, 1 + tsize v + tsizes (arms.take j) = K := ⟨_, rfl⟩
    rw [hK] at hget hdj1 hdj
    have hKl := get_lt hget
    obtain ⟨bq, oq, haq, j1, j2, j3, hc⟩ := sl_nd hl hget
    have hSu := (hS.tr hk01).tr hku
    refine ixE haq K (by simp only [hK]) hKl ?_
    refine ld (hSu _ _ _ (hc 1 _ rfl)).cell ?_
    refine int64 (by simp only [hK]; omega) (by simp only [hK]; omega) ?_
    obtain ⟨a2, hsl2, hSl2⟩ := hl.from hcap (K + 1) (by omega)
    rw [hdj1] at hsl2 hSl2
    refine slcL' τok rfl (K + 1) _ (by simp only [hK]; omega) (by omega) hsl2 ?_
    have call := under21_ct hR y m (by omega) (by have := tsizes_mem arms _ hxm; omega) (by rw [← hm]; exact hoky) hSu ((hD.tr hk01).tr hku) a2 (cap - (K + 1)) hSl2 (by rw [← hdj1, List.length_drop]; omega) ap cp hp h0 (by have := tsizes_mem arms _ hxm; omega) (by have := tsizes_mem arms _ hxm; omega) (by have := tsizes_mem arms _ hxm; omega)
    rw [← hgx] at call
    rw [← hm] at call
    refine ev_call call ?_
    rintro e u1 ⟨a3, c3, rfl, hs3, _, hk3⟩
    obtain ⟨code, hcode⟩ : ∃ l, gen (.mk nn [y]) h ps 0 = l := ⟨_, rfl⟩
    rw [hcode] at hs3
    rw [hcode]
    have hcl : code.length = glen (.mk nn [y]) := by rw [← hcode]; exact gen_len _ _ hokx _ _ _
    have hcb := glen_bd _ _ hokx
    have htm := tsizes_mem arms _ hxm
    have hal := armsLen_eq arms
    have hald : armsLen (arms.drop j) = glen (.mk nn [y]) + (if (arms.drop (j + 1)).isEmpty then 0 else 1) + armsLen (arms.drop (j + 1)) := by rw [hdx]; rfl
    have hald2 : armsLen (arms.drop j) ≤ armsLen arms := by
      have h1 := armsLen_eq (arms.drop j)
      have h2 : glens (arms.drop j) ≤ glens arms := by
        have := glens_app (arms.take j) (arms.drop j)
        rw [List.take_append_drop] at this
        omega
      simp only [List.length_drop] at h1
      omega
    have hgb : glens arms ≤ 2 * tsizes arms := by
      have : ∀ l : List Tr, (∀ x ∈ l, okT (cntF p) nxF x (ps.length, true)) → glens l ≤ 2 * tsizes l := by
        intro l
        induction l with
        | nil => intro _; simp [glens]
        | cons x r ih =>
          intro hx
          have := ih fun y hy => hx y (by simp [hy])
          have := glen_bd _ _ (hx x (by simp))
          simp only [glens, tsizes]
          omega
      exact this arms harms
    have hemp : (arms.drop (j + 1)).isEmpty = true ↔ ¬ j + 1 < arms.length := by
      rw [List.isEmpty_iff, List.drop_eq_nil_iff]
      omega
    refine int64 (by first | omega | (simp only; omega)) (by first | omega | (simp only; omega)) ?_
    refine int64 (by first | omega | (simp only; omega)) (by first | omega | (simp only; omega)) ?_
    refine fill [.slice a3 code.length c3] rfl ?_
    refine new fun b4 u2 hb4 hB4 hs4 hk4 => ?_
    have hs3' : Sl rIns (New u.heap.size u2) a3 code := hs3.mono fun b o t ht => ⟨ht.1, ht.2.kp hk4 (by simp)⟩
    refine hA.pushB (hk3.tr hk4) hs3' (hB4.cl rfl) (by simp; omega) fun vb' u3 hA3 hk5 hlo5 => ?_
    refine fill [.int .i64 nn.a] rfl ?_
    refine new fun b6 u4 hb6 hB6 hs6 hk6 => ?_
    refine (hA3.tr hk6).pushT (q := nn.a) j2 (hB6.cl rfl) (by simp; omega) fun vt' u5 hA5 hk7 hlo7 => ?_
    have hk15 : Kp [] w1 u5 := (((hku.tr (hk3.tr hk4)).trans hk5 fun x hx hl => by have := hlo5 x (by simpa using hx); omega).tr hk6).trans hk7 fun x hx hl => by have := hlo7 x (by simpa using hx); omega
    have hB' : (arms.take (j + 1)).map (fun x => gen x h ps 0) = (arms.take j).map (fun x => gen x h ps 0) ++ [code] := by
      rw [take_get hx, List.map_append, List.map_cons, List.map_nil, hcode]
    have hT' : (arms.take (j + 1)).map (fun x => x.n.a) = (arms.take j).map (fun x => x.n.a) ++ [nn.a] := by
      rw [take_get hx, List.map_append, List.map_cons, List.map_nil]
      rfl
    refine int64 (by first | omega | (simp only; omega)) (by first | omega | (simp only; omega)) ?_
    refine int64 (by first | omega | (simp only; omega)) (by first | omega | (simp only; omega)) ?_
    refine br_dec (fun g3 => ?_) (fun g3 => ?_)
    · rw [if_neg (by rw [hemp]; omega)] at hald
      refine int64 (by first | omega | (simp only; omega)) (by first | omega | (simp only; omega)) ?_
      refine int64 (by first | omega | (simp only; omega)) (by first | omega | (simp only; omega)) ?_
      refine ⟨(j + 1, vb', vt'), by simp only; omega, rfl, ⟨rfl, rfl, rfl, rfl, eqI (by simp only; omega), rfl, rfl, rfl, eqI (by simp only; omega), rfl, trivial⟩, by simp only; omega, hk15, ?_⟩
      simp only
      rw [hB', hT']
      exact hA5
    · rw [if_pos (by rw [hemp]; omega)] at hald
      refine int64 (by first | omega | (simp only; omega)) (by first | omega | (simp only; omega)) ?_
      refine ⟨(j + 1, vb', vt'), by simp only; omega, rfl, ⟨rfl, rfl, rfl, rfl, eqI (by simp only; omega), rfl, rfl, rfl, eqI (by simp only; omega), rfl, trivial⟩, by simp only; omega, hk15, ?_⟩
      simp only
      rw [hB', hT']
      exact hA5
  have hjn : j = arms.length := by omega
  subst hjn
  rw [List.take_length] at hA
  have hT0 : tsizes (arms.take (arms.length, vb, vt).1) = tsizes arms := by simp only; rw [List.take_length]
  have hD0 : armsLen (arms.drop (arms.length, vb, vt).1) = 0 := by simp only; rw [List.drop_length]; rfl
  rw [hT0, hD0]
  obtain ⟨⟨a11, c11, hvb, hs11⟩, a12, c12, hvt, hs12⟩ := hA.done (by simp; omega) (by simp; omega)
  rw [List.length_map] at hvb hvt
  subst hvb hvt
  have hal := armsLen_eq arms
  have hgb : glens arms ≤ 2 * tsizes arms := by
    have : ∀ l : List Tr, (∀ x ∈ l, okT (cntF p) nxF x (ps.length, true)) → glens l ≤ 2 * tsizes l := by
      intro l
      induction l with
      | nil => intro _; simp [glens]
      | cons x r ih =>
        intro hx
        have := ih fun y hy => hx y (by simp [hy])
        have := glen_bd _ _ (hx x (by simp))
        simp only [glens, tsizes]
        omega
    exact this arms harms
  have hk0u := hk01.tr hku
  -- the switch
  refine ixE ha0 0 rfl (by omega) ?_
  refine ld ((hS.tr hk0u) _ _ _ (hcells 1 _ rfl)).cell ?_
  refine ev_call (one21_ct 9 n.a n.b none 0 0 u) ?_
  rintro e u1 ⟨rfl, hB1, hku1, hsz1⟩
  have hA2 := Ar2.start (lo := u.heap.size) (Nat.le_refl _) hB1 ha (by constructor <;> omega)
  obtain ⟨en, hen⟩ : ∃ e : Int, 1 + (armsLen arms : Int) - ((0 : Nat) : Int) = e := ⟨_, rfl⟩
  rw [hen]
  refine lp τok (σ := Nat × Value × Value × List Int × List Ins) (fun q => [(8, .slice av (gen v h ps 0).length cv), (9, .int .i64 (1 + tsize v + tsizes arms : Nat)), (10, .int .i64 n.b), (11, .slice a11 arms.length c11), (12, .slice a12 arms.length c12), (13, .int .i64 en), (18, q.2.1), (19, .int .i64 q.1)])
    (fun q z => q.1 ≤ arms.length ∧ Kp [] u z ∧ Ar2 u.heap.size z q.2.1 q.2.2.1 n.a n.b q.2.2.2.1 q.2.2.2.2 ∧ q.2.2.2.1.length = 2 * q.1 ∧ q.2.2.2.1 ++ armsTo (arms.drop q.1) (1 + q.2.2.2.2.length) = armsTo arms 1 ∧ q.2.2.2.2 ++ genArms (arms.drop q.1) h ps (1 + q.2.2.2.2.length) [en] = genArms arms h ps 1 [en]
      ∧ q.2.2.2.2.length + armsLen (arms.drop q.1) = armsLen arms) (fun q => arms.length - q.1) (0, .slice (some ⟨u.heap.size, 0, none⟩) 1 1, .slice none 0 0, [], []) rfl
    ⟨rfl, rfl, rfl, rfl, rfl, rfl, rfl, rfl, trivial⟩ ⟨Nat.zero_le _, hku1, hA2, rfl, by simp, by simp, by simp⟩ ?_
  clear hA2 hA hj htj g1 hT0 hD0
  rintro ⟨j, v18, vh, to, dn⟩ z ⟨hj, hkz, hA, htol, hto, hdn, hdl⟩
  simp only at hj hA htol hto hdn hdl
  have hdnl : dn.length ≤ 20000 := by omega
  refine br_dec (fun g1 => ?_) (fun g1 => ?_)
  · have hjl : j < arms.length := by omega
    obtain ⟨x, hx, hdx⟩ := drop_get hjl
    have hxm := List.mem_of_getElem? hx
    have hokx := harms x hxm
    have hcl : (gen x h ps 0).length = glen x := gen_len _ _ hokx _ _ _
    obtain ⟨g, cap18, hv18, hc18, hg18⟩ := hA.at (by omega)
    subst hv18
    obtain ⟨bt, ot, hat, hct, h64⟩ := hs12.int (i := j) (x := x.n.a) (by rw [List.getElem?_map, hx]; rfl)
    obtain ⟨bb, ob, hab, a3, c3, hcb, hs3⟩ := hs11.sl (i := j) (x := gen x h ps 0) (by rw [List.getElem?_map, hx]; rfl)
    have hbtu := hct.2.lt
    have hbbu := hcb.2.lt
    obtain ⟨qn, hqn⟩ : ∃ q : Int, ((dn.length + 1 : Nat) : Int) = q := ⟨_, rfl⟩
    have hct0 := hct.2.kp hkz (by simp)
    refine drawG τok (fun y => Cl y.heap bt (ot + j * 1) (.int .i64 x.n.a)) ?_
    refine readsG τok [0, 1, 2, 3, 5, 6, 7, 8, 9, 10] 6 #[true, true, true, true, false, true, true, true, true, true, true, false, false, false, false, false] rfl rfl (by kernel_rfl) (by kernel_rfl) (by kernel_rfl) hct0.cl ?_
    refine ix 0 rfl (by omega) ?_
    refine ixE hat j rfl hjl ?_
    refine ldQ (fun y hy => hy) ?_
    have hvlo : ∀ g', vh.ownBlock = some g' → u.heap.size ≤ g' := fun g' hg' => (hA.ot.block g' hg').1
    have hap := hA.ap g rfl
    refine forkG (fun s y => ∃ bn, s.d = [] ∧ Has s [(8, .slice av (gen v h ps 0).length cv), (9, .int .i64 (1 + tsize v + tsizes arms : Nat)), (10, .int .i64 n.b), (11, .slice a11 arms.length c11), (12, .slice a12 arms.length c12), (13, .int .i64 en), (18, .slice (some ⟨g, 0, none⟩) (dn.length + 1) cap18), (19, .int .i64 j), (92, .slice (some ⟨g, 0, none⟩) (dn.length + 1) cap18), (96, vh), (103, .slice (some ⟨bn, 0, none⟩) 2 2)] ∧ Kp [] z y ∧ Bk y.heap bn [.int .i64 qn, .int .i64 x.n.a] 3) 4 #[true, true, true, true, true, true, true, true, true, true, true, true, false, false, false, false] ?_ fun tail => ?_
    rotate_left
    · refine twoG τok 4 11 5 #[true, true, true, true, true, true, true, true, true, true, true, false, false, false, false, false] #[true, true, true, true, false, true, true, true, true, true, true, true, false, false, false, false] rfl rfl rfl rfl rfl (by kernel_rfl) ?_ ?_
      · refine ld hc18.cell ?_
        refine ⟨.inl hct0.cl, ?_⟩
        refine nextG τok 11 4 #[true, true, true, true, true, true, true, true, true, true, true, true, false, false, false, false] rfl rfl rfl (by kernel_rfl) ?_
        rw [hqn]
        refine fill [.int .i64 qn, .int .i64 x.n.a] rfl ?_
        refine new fun bn z1 hbn hBn hsn hkn => ?_
        have hkn : Kp [] z z1 := hkn.rd
        exact ⟨.inl (hct0.kp hkn (by simp)).cl, tail _ _ ⟨bn, rfl, ⟨rfl, rfl, rfl, rfl, rfl, rfl, rfl, rfl, rfl, rfl, rfl, trivial⟩, hkn, hBn⟩⟩
      · rw [hqn]
        refine fill [.int .i64 qn, .int .i64 x.n.a] rfl ?_
        refine new fun bn z1 hbn hBn hsn hkn => ?_
        have hkn : Kp [] z z1 := hkn.rd
        refine ⟨.inl (hct0.kp hkn (by simp)).cl, ?_⟩
        refine nextG τok 4 4 #[true, true, true, true, true, true, true, true, true, true, true, true, false, false, false, false] rfl rfl rfl (by kernel_rfl) ?_
        refine ld (hc18.kp hkn (by simp)).cell ?_
        exact ⟨.inl (hct0.kp hkn (by simp)).cl, tail _ _ ⟨bn, rfl, ⟨rfl, rfl, rfl, rfl, rfl, rfl, rfl, rfl, rfl, rfl, rfl, trivial⟩, hkn, hBn⟩⟩
    rintro ⟨se, sd⟩ z1 ⟨bn, rfl, hs, hkn, hBn⟩
    refine weakG _ hs ?_
    refine nextG τok 12 3 #[true, true, true, true, true, true, true, true, true, true, true, true, true, false, false, false] rfl rfl rfl (by kernel_rfl) ?_
    refine (hA.tr hkn).push (q := qn) (r := x.n.a) (by constructor <;> omega) h64 hBn (by omega) fun vh' z2 hone hk2 hst => ?_
    have hct2 := (hct0.kp hkn (by simp)).kp hk2 (fun hx => by have := hvlo bt (by simpa using hx); omega)
    refine ⟨.inl hct2.cl, ?_⟩
    refine nextG τok 13 2 #[true, true, true, true, true, true, true, true, true, true, true, true, true, true, false, false] rfl rfl rfl (by kernel_rfl) ?_
    refine ix 0 rfl (by omega) ?_
    refine ⟨.inl hct2.cl, ?_⟩
    refine nextG τok 14 1 #[true, true, true, true, true, true, true, true, true, true, true, true, true, true, true, false] rfl rfl rfl (by kernel_rfl) ?_
    refine ⟨.inl hct2.cl, ?_⟩
    refine nextG τok 15 0 #[true, true, true, true, true, true, true, true, true, true, true, true, true, true, true, true] rfl rfl rfl (by kernel_rfl) ?_
    rw [add_off]
    refine hst g cap18 rfl _ fun z3 hA3 hk3 => ?_
    refine ⟨.inl (hct2.kp hk3 (by simp; omega)).cl, ?_⟩
    refine doneG (by kernel_rfl) ?_
    have hkz3 : Kp [] u z3 := ((hkz.tr hkn).trans hk2 fun x hx hl => by have := hvlo x (by simpa using hx); omega).trans hk3 fun x hx hl => by simp at hx; omega
    have hs3' : Sl rIns (New w1.heap.size z3) a3 (gen x h ps 0) := hs3.mono fun b o t ht => ⟨ht.1, ht.2.kp hkz3 (by simp)⟩
    have hdal : armsLen (arms.drop j) = glen x + (if (arms.drop (j + 1)).isEmpty then 0 else 1) + armsLen (arms.drop (j + 1)) := by rw [hdx]; rfl
    have hcbx := tsizes_mem arms _ hxm
    have hgx := glen_bd _ _ hokx
    refine ixE hab j rfl hjl ?_
    refine ld (hcb.2.kp hkz3 (by simp)).cl.cell ?_
    refine ev_call (hA3.behind (by omega) (l2 := w1.heap.size) hku.size hs3' (gen_to (B := 1048576) (by omega) x _ hokx h ps 0 (by omega))) ?_
    rintro e z4 ⟨v4, rfl, hA4, hk4⟩
    have hdnx : ∀ r, (arms.drop (j + 1)).isEmpty = r → dn ++ (gen x h ps 0).map (shift (dn.length + 1)) ++ ((if r then [] else [⟨13, 0, 0, [en]⟩]) ++ genArms (arms.drop (j + 1)) h ps (1 + dn.length + glen x + 1) [en]) = genArms arms h ps 1 [en] := by
      intro r hr
      rw [← hdn, hdx]
      simp only [genArms]
      rw [hr, ← gen_sh x _ hokx h ps 0 (dn.length + 1), show 0 + (dn.length + 1) = 1 + dn.length by omega, List.append_assoc]
    have htox : (to ++ [qn, x.n.a]) ++ armsTo (arms.drop (j + 1)) (1 + dn.length + glen x + 1) = armsTo arms 1 := by
      rw [← hto, hdx]
      simp only [armsTo]
      rw [show ((1 + dn.length : Nat) : Int) = qn by omega]
      simp
    refine int64 (by omega) (by omega) ?_
    refine br_dec (fun g3 => ?_) (fun g3 => ?_)
    · have hne : (arms.drop (j + 1)).isEmpty = false := by
        rw [Bool.eq_false_iff]
        intro hc
        rw [List.isEmpty_iff, List.drop_eq_nil_iff] at hc
        omega
      have hdx' := hdnx _ hne
      rw [hne] at hdal
      simp only [Bool.false_eq_true, if_false] at hdal hdx'
      refine fill [.int .i64 en] rfl ?_
      refine new fun be z5 hbe hBe hs5 hk5 => ?_
      refine fill [.int .i64 13, .int .i64 0, .int .i64 0, .slice (some ⟨be, 0, none⟩) 1 1] rfl ?_
      refine new fun bi z6 hbi hBi hs6 hk6 => ?_
      refine hA4.goto (q := en) (hk5.tr hk6) (by simp; omega) (by constructor <;> omega) (be := be) (by omega) (hBe.kp hk6 (by simp)) hBi fun v7 z7 hA7 hk7 hlo7 => ?_
      refine int64 (by omega) (by omega) ?_
      refine ⟨(j + 1, v7, vh', to ++ [qn, x.n.a], dn ++ (gen x h ps 0).map (shift (dn.length + 1)) ++ [⟨13, 0, 0, [en]⟩]), by simp only; omega, rfl, ⟨rfl, rfl, rfl, rfl, rfl, rfl, rfl, rfl, trivial⟩, by simp only; omega, ?_, hA7, by simp; omega, ?_, ?_, ?_⟩
      · exact (((hkz3.tr hk4).tr hk5).tr hk6).trans hk7 fun x hx hl => by have := hlo7 x (by simpa using hx); omega
      · simp only [List.length_append, List.length_map, List.length_cons, List.length_nil]
        rw [hcl, show 1 + (dn.length + glen x + (0 + 1)) = 1 + dn.length + glen x + 1 by omega]
        exact htox
      · simp only [List.length_append, List.length_map, List.length_cons, List.length_nil]
        rw [hcl, show 1 + (dn.length + glen x + (0 + 1)) = 1 + dn.length + glen x + 1 by omega, List.append_assoc]
        exact hdx'
      · simp only [List.length_append, List.length_map, List.length_cons, List.length_nil]
        rw [hcl]
        omega
    · have hnil : arms.drop (j + 1) = [] := by
        rw [List.drop_eq_nil_iff]
        omega
      have hdx' := hdnx true (by rw [hnil]; rfl)
      rw [hnil] at hdal hdx' htox
      simp only [List.isEmpty_nil, if_true, armsLen] at hdal
      simp only [if_true, List.nil_append] at hdx'
      refine int64 (by omega) (by omega) ?_
      refine ⟨(j + 1, v4, vh', to ++ [qn, x.n.a], dn ++ (gen x h ps 0).map (shift (dn.length + 1))), by simp only; omega, rfl, ⟨rfl, rfl, rfl, rfl, rfl, rfl, rfl, rfl, trivial⟩, by simp only; omega, hkz3.tr hk4, hA4, by simp; omega, ?_, ?_, ?_⟩
      · simp only
        rw [hnil]
        exact htox
      · simp only
        rw [hnil]
        exact hdx'
      · simp only [List.length_append, List.length_map]
        rw [hnil, hcl]
        simp only [armsLen]
        omega
  · have hjn : j = arms.length := by omega
    subst hjn
    rw [List.drop_length] at hto hdn hdl
    simp only [armsTo, genArms, List.append_nil, armsLen, Nat.add_zero] at hto hdn hdl
    subst hto hdn
    obtain ⟨a18, c18, hv18, hs18⟩ := hA.done_ (by omega) (by omega)
    subst hv18
    have hkw : Kp [] w z := hk0u.tr hkz
    have hsv' : Sl rIns (New w.heap.size z) av (gen v h ps 0) := hsv.mono fun b o t ht => ⟨ht.1, ht.2.kp (hku.tr hkz) (by simp)⟩
    have hs18' : Sl rIns (New w.heap.size z) a18 (⟨9, n.a, n.b, armsTo arms 1⟩ :: genArms arms h ps 1 [en]) := hs18.mono fun b o t ht => ⟨Nat.le_trans hk0u.size ht.1, ht.2⟩
    have hto18 : ToOk 1048576 (⟨9, n.a, n.b, armsTo arms 1⟩ :: genArms arms h ps 1 [en]) := by
      refine ToOk.app (l := [_]) (fun x hx => ?_) (genArms_to (p := p) (by omega) arms ps.length harms h ps 1 [en] (by omega) (fun t ht => by simp at ht; subst ht; constructor <;> omega))
      simp at hx
      subst hx
      exact armsTo_ok (p := p) (by omega) arms ps.length 1 harms (by omega)
    refine ev_call (behind_ct (lo := w.heap.size) hkw.size _ _ av a18 cv c18 hsv' hs18' (by omega) (by simp only [List.length_cons]; omega) hto18) ?_
    rintro e z2 ⟨a2, c2, rfl, hs2, hC2, hk2⟩
    have hne : arms.isEmpty = false := by
      rw [Bool.eq_false_iff]
      intro hc
      rw [List.isEmpty_iff] at hc
      subst hc
      simp at hb
      omega
    have hR2 : gen v h ps 0 ++ (⟨9, n.a, n.b, armsTo arms 1⟩ :: genArms arms h ps 1 [en]).map (shift (gen v h ps 0).length) = RES := by
      rw [← hRES]
      simp only [genSw, hne, Bool.false_eq_true, if_false, List.map_cons]
      rw [hgv, ← genArms_sh arms ps.length harms h ps 1 (glen v) [en]]
      rw [show 0 + glen v + 1 = 1 + glen v by omega, armsTo_sh]
      simp only [shift, if_true, List.map_cons, List.map_nil]
      rw [show en + (glen v : Int) = ((1 + glen v + armsLen arms : Nat) : Int) by omega]
    rw [hR2] at hs2 hC2
    rw [hR2]
    refine ⟨a2, c2, ?_, hs2, hC2, hkw.tr hk2⟩
    simp [one]
    omega
end
end Go.Proofs.YtjpdkcejkogciaaDoor

/-
  A map of ints as a function (as in the Level text LwA), for this seat's map type.
-/
set_option linter.unusedSimpArgs false
set_option linter.unusedVariables false
namespace Go.Proofs.YtjpdkcejkogciaaDoor
open Go.Wx Cd

def putF (f : Int → Option Int) (k v : Int) : Int → Option Int := fun x => if x = k then some v else f x
theorem wf_of {x : Int} (h : I64 x) : (Lit.int .i64 x).wf = true := by
  unfold I64 at h
  simp [Lit.wf, IntKind.min, IntKind.max, IntKind.signed, IntKind.bits]
  omega
def MV (w : World) (b : Nat) (f : Int → Option Int) (n : Nat) : Prop := ∃ D : DataW Unit, w.ownsMap Tryd.prog 3 (plainElem Tryd.prog 3) b n D ∧
  ∀ x, I64 x → Maps.has D (.int .i64 x) = (f x).isSome ∧ D.atKey (.int .i64 x) (.lit (.int .i64 0)) = .lit (.int .i64 ((f x).getD 0))
theorem MV.made {w : World} {k : Value → World → Prop} (hk : ∀ b w', b = w.heap.size → MV w' b (fun _ => none) 0 → w'.heap.size = b + 1 → Kp [] w w' → k (.map (some b)) w') : EvRun Tryd.prog (Instr.makeMap 135 none) w k := by
  refine run (show (Instr.makeMap 135 none).run Tryd.prog w = .ok (.map (some w.heap.size)) (w.alloc (.map #[] 0)) from rfl) (hk _ _ rfl ⟨.map [], World.ownsMap_made w _ _ _, fun x _ => ⟨rfl, rfl⟩⟩ (by simp) (Kp.alloc _ _))
theorem MV.look1 {w : World} {b n : Nat} {f : Int → Option Int} (h : MV w b f n) {x : Int} (hx : I64 x) {k : Value → World → Prop} (hk : k (.int .i64 ((f x).getD 0)) w) : EvRun Tryd.prog (Instr.lookup 135 (.map (some b)) (.int .i64 x) false) w k := by
  obtain ⟨D, h1, h2⟩ := h
  obtain ⟨c, hr, hc, _⟩ := h1.lookup_int (Maps.int_keyed Tryd.underlying3) Tryd.underlying135 Tryd.underlying3 (Tryd.zeroValue3 w) (Maps.keyOf_int_mk Tryd.underlying3 (wf_of hx))
  rw [(h2 x hx).2] at hc
  simp at hc
  rw [← hc] at hr
  exact run hr hk
theorem MV.put {w : World} {b n : Nat} {f : Int → Option Int} (h : MV w b f n) (hn : n < 1000000) {x v : Int} (hx : I64 x) (hv : I64 v) {k : World → Prop} (hk : ∀ w', MV w' b (putF f x v) (n + 1) → Kp [b] w w' → k w') : EvRunU Tryd.prog (Instr.mapUpdate 135 (.map (some b)) (.int .i64 x) (.int .i64 v)) w k := by
  obtain ⟨D, h1, h2⟩ := h
  obtain ⟨w', hr, h3, hg⟩ := h1.update (Maps.int_keyed Tryd.underlying3) Tryd.underlying135 (by unfold maxLen; omega) (Maps.keyOf_int_mk Tryd.underlying3 (wf_of hx)) (plainElem_int Tryd.underlying3 (wf_of hv))
  refine runU hr (hk w' ⟨_, h3, fun y hy => ?_⟩ (by simpa using grown_kp hg))
  by_cases e : y = x
  · subst e
    rw [Maps.has_put_same h1.isMap (by trivial), Maps.atKey_put_same h1.isMap (by trivial)]
    simp [putF]
  · have hne : (Lit.int .i64 y) ≠ .int .i64 x := by simpa using e
    rw [Maps.has_put_other hne, Maps.atKey_put_other hne]
    simp only [putF, if_neg e]
    exact h2 y hy
end Go.Proofs.YtjpdkcejkogciaaDoor

/-
  Reference 21: code of one's own, behind and goto; the table; Row's parts.
-/
set_option linter.unusedSimpArgs false
set_option linter.unusedVariables false
namespace Cd
open Go Go.Wx
theorem underG_sh {p : Flt} {x : Tr} {s : Int × Bool} (hok : okT (cntF p) nxF x s) (m h : Int) (ps : List Int) (b k : Nat) : underG m (gen x) h ps (b + k) = (underG m (gen x) h ps b).map (shift k) := by
  simp only [underG, List.map_append, shift_slides]
  rw [gen_sh x _ hok]
end Cd
namespace Go.Proofs.YtjpdkcejkogciaaDoor
open Go.Wx Cd

def tabF : Int → Option Int := putF (putF (putF (putF (putF (putF (putF (putF (fun _ => none) 62 1) 63 2) 64 7) 65 4) 66 5) 68 8) 71 10) 73 12
theorem tabF_get {op : Int} (h : op = 62 ∨ op = 63 ∨ op = 64 ∨ op = 65 ∨ op = 66 ∨ op = 68 ∨ op = 71 ∨ op = 73) : (tabF op).getD 0 = doneOp op := by
  rcases h with rfl | rfl | rfl | rfl | rfl | rfl | rfl | rfl <;> rfl

section
variable {lo : Nat} {w u z : World} {v : Value} {l : List Ins}
theorem Cd1.goto (h : Cd1 lo u v l) (hk : Kp [] u z) (hn : l.length + 1 ≤ 1048576) {q : Int} (hq : I64 q) {be bb c ty : Nat} (he : u.heap.size ≤ be) (hBe : Bk z.heap be [.int .i64 q] 3) (hBb : Bk z.heap bb [.int .i64 13, .int .i64 0, .int .i64 0, .slice (some ⟨be, 0, none⟩) 1 1] 50) {K : Value → World → Prop}
    (hK : ∀ v' z', Cd1 lo z' v' (l ++ [⟨13, 0, 0, [q]⟩]) → Kp v.ownBlock.toList z z' → K v' z') : EvRun Tryd.prog (Builtin.append_ #[39, 39] ty #[v, .slice (some ⟨bb, 0, none⟩) 1 c]) z K := by
  have hbv : ∀ g, v.ownBlock = some g → g < u.heap.size := by obtain ⟨rs, h1, h2⟩ := h; exact fun g hg => (h1.block g hg).2
  have hlo : lo ≤ u.heap.size := by obtain ⟨rs, h1, h2⟩ := h; exact h1.low
  obtain ⟨rs, h1, h2⟩ := h.tr hk
  have hlen := h2.length
  refine h1.ap1 τok rfl rfl (by decide) ⟨13, 0, 0, .slice (some ⟨be, 0, none⟩) 1 1⟩ [.int .i64 13, .int .i64 0, .int .i64 0, .slice (some ⟨be, 0, none⟩) 1 1] ⟨rfl, rfl⟩ (fun j t hj => by rw [Nat.zero_add]; exact hBb.cl hj) (by omega) (by simp only [maxLen]; omega) fun v' z' hO hk3 hb3 => ?_
  have hbe : be ∉ v.ownBlock.toList := fun hx => by have := hbv be (by simpa using hx); omega
  have hsl : Sl rInt (Dn lo v z) (some ⟨be, 0, none⟩) [q] := by
    refine ⟨by simp, .inr ⟨be, 0, rfl, fun i x hi => ?_⟩⟩
    match i, hi with
    | 0, hi =>
      simp at hi
      subst hi
      refine ⟨_, ⟨rfl, hq⟩, fun j t hj => ⟨by omega, fun e => hbe (by simp [← e]), _, _, hBe, ?_⟩⟩
      rw [show 0 + 0 * rInt.sz + j = j by simp, List.getElem?_toArray]
      exact hj
  exact hK v' z' ⟨_, hO, (h2.mono fun r x hx => hx.step hk3 hb3).append ⟨⟨rfl, rfl, rfl, by constructor <;> simp, by constructor <;> simp, by constructor <;> simp, _, 1, rfl, hsl.mono (dn_step hk3 hb3)⟩, trivial⟩⟩ hk3
theorem one_to {b be : Nat} (hb : lo ≤ b) (hbe : lo ≤ be) {op q : Int} (hB : Bk w.heap b [.int .i64 op, .int .i64 0, .int .i64 0, .slice (some ⟨be, 0, none⟩) 1 1] 50) (hBe : Bk w.heap be [.int .i64 q] 3) (h1 : I64 op) (hq : I64 q) : Sl rIns (New lo w) (some ⟨b, 0, none⟩) [⟨op, 0, 0, [q]⟩] := by
  refine ⟨by simp, .inr ⟨b, 0, rfl, fun i x hi => ?_⟩⟩
  match i, hi with
  | 0, hi =>
    simp at hi
    subst hi
    refine ⟨_, ⟨some ⟨be, 0, none⟩, 1, rfl, ⟨by simp, .inr ⟨be, 0, rfl, fun i x hi => ?_⟩⟩, h1, by constructor <;> simp, by constructor <;> simp⟩, fun j u hu => ⟨hb, _, _, hB, by rw [show 0 + 0 * rIns.sz + j = j by simp, List.getElem?_toArray]; exact hu⟩⟩
    match i, hi with
    | 0, hi =>
      simp at hi
      subst hi
      refine ⟨_, ⟨rfl, hq⟩, fun j t hj => ⟨hbe, _, _, hBe, ?_⟩⟩
      rw [show 0 + 0 * rInt.sz + j = j by simp, List.getElem?_toArray]
      exact hj
end
end Go.Proofs.YtjpdkcejkogciaaDoor

