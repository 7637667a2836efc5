/-
  Own texts put together: EmB, BaA, BaB, BaC.
-/
import Derived.Test.YtjpdkcejkogciaaDoorMg08
/-
  Package emit: an emitter in memory; put, next, cut.
-/
set_option linter.unusedSimpArgs false
set_option linter.unusedVariables false
namespace Cd
open Go Go.Wx
/-- an instruction as it lies in memory -/
structure Raw where
  op : Int
  a : Int
  b : Int
  to : Value
def rRaw : Rd Raw where
  sz := 4
  den _ cs x := cs = [.int .i64 x.op, .int .i64 x.a, .int .i64 x.b, x.to] ∧ x.to.oneCell' = true
  len := by rintro _ cs x ⟨rfl, _⟩; rfl
  mono := by rintro _ _ cs x _ h; exact h
  one := by rintro _ cs x ⟨rfl, h⟩ u hu; simp at hu; rcases hu with rfl | rfl | rfl | rfl <;> first | rfl | exact h
theorem flatRaw : Flat rRaw := fun _ _ _ _ h => h

/-- no two of them share a block -/
def Apart (l : List Value) : Prop := ∀ (i j : Nat) (u v : Value) (g : Nat), l[i]? = some u → l[j]? = some v → u.ownBlock = some g → v.ownBlock = some g → i = j
theorem Apart.set {l : List Value} (h : Apart l) {k : Nat} {v v' : Value} (hk : l[k]? = some v) (hv : v'.ownBlock = v.ownBlock ∨ ∃ g, v'.ownBlock = some g ∧ ∀ u ∈ l, u.ownBlock ≠ some g) : Apart (l.set k v') := by
  have hkl := get_lt hk
  have key : ∀ (j : Nat) (u : Value) (g : Nat), j ≠ k → l[j]? = some u → u.ownBlock = some g → v'.ownBlock = some g → False := by
    intro j u g hj hu h1 h2
    rcases hv with e | ⟨g', e, hf⟩
    · exact hj (h j k u v g hu hk h1 (by rw [← e]; exact h2))
    · rw [e] at h2
      have h2 := Option.some.inj h2
      subst h2
      exact hf u (List.mem_of_getElem? hu) h1
  intro i j u w g hi hj h1 h2
  rw [List.getElem?_set] at hi hj
  by_cases ei : k = i
  · by_cases ej : k = j
    · omega
    · rw [if_pos ei, if_pos (by omega)] at hi
      have hi := Option.some.inj hi
      subst hi
      rw [if_neg ej] at hj
      exact (key j w g (by omega) hj h2 h1).elim
  · rw [if_neg ei] at hi
    by_cases ej : k = j
    · rw [if_pos ej, if_pos (by omega)] at hj
      have hj := Option.some.inj hj
      subst hj
      exact (key i u g (by omega) hi h1 h2).elim
    · rw [if_neg ej] at hj
      exact h i j u w g hi hj h1 h2
theorem Apart.app {l : List Value} (h : Apart l) {v : Value} (hv : v.ownBlock = none) : Apart (l ++ [v]) := by
  intro i j u w g hi hj h1 h2
  have key : ∀ (j : Nat) (u : Value), (l ++ [v])[j]? = some u → u.ownBlock = some g → l[j]? = some u := by
    intro j u hu h1
    rw [List.getElem?_append] at hu
    split at hu
    · exact hu
    · obtain ⟨_, rfl⟩ : j - l.length = 0 ∧ v = u := by
        have := get_lt hu
        simp only [List.length_cons, List.length_nil] at this
        have h0 : j - l.length = 0 := by omega
        rw [h0] at hu
        exact ⟨h0, by simpa using hu⟩
      rw [hv] at h1
      cases h1
  exact h i j u w g (key i u hi h1) (key j w hj h2) h1 h2

theorem _root_.Go.Wx.Own.kpn {α : Type} {R : Rd α} {e lo : Nat} {w w' : World} {v : Value} {l : List α} {X : List Nat} (hf : Flat R) (h : Own R e lo w v l) (k : Kp X w w') (hx : ∀ g, v.ownBlock = some g → g ∉ X) : Own R e lo w' v l := by
  obtain ⟨⟨css, h1, h2⟩, h3⟩ := h
  exact ⟨⟨css, own_kp h1 k hx, h2.mono fun cs x hx => hf _ _ _ _ hx⟩, Nat.le_trans h3 k.size⟩
/-- the first ones of a row of one's own -/
theorem _root_.Go.Wx.Own.cut {α : Type} {R : Rd α} {e lo : Nat} {w : World} {v : Value} {l m : List α} (h : Own R e lo w v (l ++ m)) : ∃ a cap, v = .slice a (l ++ m).length cap ∧ Own R e lo w (.slice a l.length cap) l ∧ (l ++ m).length ≤ cap ∧ (a = none ∨ ∃ g, a = some ⟨g, 0, none⟩) := by
  obtain ⟨⟨css, h1, h2⟩, h3⟩ := h
  have hlen := h2.length
  obtain ⟨c1, c2, rfl, hc1⟩ : ∃ c1 c2, css = c1 ++ c2 ∧ c1.length = l.length := ⟨css.take l.length, css.drop l.length, by simp, by simp [hlen]⟩
  have h2' : ∀ (c1 c2 : List (List Value)) (l m : List α), c1.length = l.length → All2 (R.den (Dn lo v w)) (c1 ++ c2) (l ++ m) → All2 (R.den (Dn lo v w)) c1 l := by
    intro c1
    induction c1 with
    | nil => intro c2 l m hl _; match l, hl with | [], _ => trivial
    | cons c r ih => intro c2 l m hl h; match l, hl with | x :: l, hl => exact ⟨h.1, ih c2 l m (by simpa using hl) h.2⟩
  have hd := h2' c1 c2 l m hc1 h2
  have hk : ∀ cs ∈ c1, cs.length = R.sz := by
    intro cs hcs
    obtain ⟨i, hi⟩ := List.getElem?_of_mem hcs
    obtain ⟨cs', h4, h5⟩ := hd.get (i := i) (a := l[i]'(by have := get_lt hi; omega)) (by simp)
    rw [hi] at h4
    obtain rfl := Option.some.inj h4
    exact R.len h5
  have hfl := flat_len c1 hk
  rcases h1.2 with ⟨rfl, h0⟩ | ⟨g, cap, cur, rfl, hb, hg, hn, hm, hc, ht⟩
  · have hl : l = [] := List.length_eq_zero_iff.1 (by simp at h0; simp [h0.1])
    have hm : m = [] := List.length_eq_zero_iff.1 (by simp at h0; simp [h0.2])
    subst hl hm
    exact ⟨none, 0, rfl, Own.nil R e h3, Nat.le_refl _, .inl rfl⟩
  · refine ⟨_, cap, rfl, ⟨⟨c1, ⟨by rw [hfl, hc1], .inr ⟨g, cap, cur, rfl, hb, hg, by simp at hn; omega, hm, hc, ?_⟩⟩, hd.mono fun cs x hx => R.mono (fun b o u hu => hu) hx⟩, h3⟩, hn, .inr ⟨g, rfl⟩⟩
    have e1 : (c1 ++ c2).flatten = c1.flatten ++ c2.flatten := by simp
    rw [e1] at ht
    have := congrArg (List.take (l.length * R.sz)) ht
    rw [List.take_take, List.take_append_of_le_length (by rw [hfl, hc1]; exact Nat.le_refl _)] at this
    rw [List.take_of_length_le (l := c1.flatten) (by rw [hfl, hc1]; exact Nat.le_refl _)] at this
    rw [← this]
    congr 1
    simp only [List.length_append, Nat.add_mul]
    omega
end Cd
namespace Go.Proofs.YtjpdkcejkogciaaDoor
open Go.Wx Cd

/-- one instruction and its row of places to go on -/
def InsAt (lo : Nat) (w : World) (r : Raw) (x : Ins) : Prop := r.op = x.op ∧ r.a = x.a ∧ r.b = x.b ∧ I64 x.op ∧ I64 x.a ∧ I64 x.b ∧ x.to.length ≤ 1048576 ∧ Own rInt 3 lo w r.to x.to

/-- an emitter: its block, what it has made, what is left, the places -/
structure EmV (C : Mem) (w0 : World) (X : List Nat) (pe : Nat) (out : List Ins) (lf : List Nd) (ps : List Int) (vo : Value) (al : Option Addr) (cl : Nat) (vp : Value) (rs : List Raw) (w : World) : Prop where
  sub : Sub C w
  kp : Kp X w0 w
  px : pe < w0.heap.size → pe ∈ X
  old : ∀ b o v, C b o v → b < w0.heap.size ∧ b ∉ X
  blk : Bk w.heap pe [vo, .slice al lf.length cl, vp, .int .i64 16384] 88
  left : Sl rNd C al lf
  cap : lf.length ≤ cl
  pls : Own rInt 3 (pe + 1) w vp ps
  raw : Own rRaw 50 (pe + 1) w vo rs
  ins : All2 (InsAt (pe + 1) w) rs out
  apart : Apart (vo :: vp :: rs.map Raw.to)
  own : ∀ u ∈ vo :: vp :: rs.map Raw.to, ∀ g, u.ownBlock = some g → g < w0.heap.size → g ∈ X
def EmS (C : Mem) (w0 : World) (X : List Nat) (pe : Nat) (out : List Ins) (lf : List Nd) (ps : List Int) (w : World) : Prop := ∃ vo al cl vp rs, EmV C w0 X pe out lf ps vo al cl vp rs w

section
variable {C : Mem} {w0 : World} {X : List Nat} {pe : Nat} {out : List Ins} {lf : List Nd} {ps : List Int} {vo : Value} {al : Option Addr} {cl : Nat} {vp : Value} {rs : List Raw} {w w' : World}

theorem EmV.tr (h : EmV C w0 X pe out lf ps vo al cl vp rs w) (k : Kp [] w w') : EmV C w0 X pe out lf ps vo al cl vp rs w' :=
  ⟨h.sub.tr k, h.kp.tr k, h.px, h.old, h.blk.kp k (by simp), h.left, h.cap, h.pls.kp k, h.raw.kp k, h.ins.mono fun r x hx => ⟨hx.1, hx.2.1, hx.2.2.1, hx.2.2.2.1, hx.2.2.2.2.1, hx.2.2.2.2.2.1, hx.2.2.2.2.2.2.1, hx.2.2.2.2.2.2.2.kp k⟩, h.apart, h.own⟩
theorem EmS.tr (h : EmS C w0 X pe out lf ps w) (k : Kp [] w w') : EmS C w0 X pe out lf ps w' := by
  obtain ⟨vo, al, cl, vp, rs, h⟩ := h
  exact ⟨vo, al, cl, vp, rs, h.tr k⟩
theorem EmV.nc (h : EmV C w0 X pe out lf ps vo al cl vp rs w) {b o : Nat} {v : Value} (hc : C b o v) : b ≠ pe ∧ ∀ u ∈ vo :: vp :: rs.map Raw.to, u.ownBlock ≠ some b := by
  obtain ⟨h1, h2⟩ := h.old b o v hc
  exact ⟨fun e => h2 (by rw [e]; exact h.px (by omega)), fun u hu hg => h2 (h.own u hu b hg h1)⟩
/-- blocks are turned that are none of the emitter's, nor were there -/
theorem EmV.kpx (h : EmV C w0 X pe out lf ps vo al cl vp rs w) {Y : List Nat} (k : Kp Y w w') (hY : ∀ b ∈ Y, pe ≠ b ∧ w0.heap.size ≤ b ∧ ∀ u ∈ vo :: vp :: rs.map Raw.to, u.ownBlock ≠ some b) : EmV C w0 X pe out lf ps vo al cl vp rs w' := by
  have key : ∀ {l : List Raw} {m : List Ins}, (∀ r ∈ l, ∀ g, r.to.ownBlock = some g → g ∉ Y) → All2 (InsAt (pe + 1) w) l m → All2 (InsAt (pe + 1) w') l m := by
    intro l
    induction l with
    | nil => intro m _ h; match m, h with | [], _ => trivial
    | cons r l ih =>
      intro m hap h
      match m, h with
      | x :: m, ⟨hx, hr⟩ => exact ⟨⟨hx.1, hx.2.1, hx.2.2.1, hx.2.2.2.1, hx.2.2.2.2.1, hx.2.2.2.2.2.1, hx.2.2.2.2.2.2.1, hx.2.2.2.2.2.2.2.kpn flatI k fun g hg => hap r (by simp) g hg⟩, ih (fun r' hr' => hap r' (by simp [hr'])) hr⟩
  exact ⟨h.sub.kp k fun b' o v hc hx => by have := (h.old b' o v hc).1; have := (hY b' hx).2.1; omega, h.kp.trans k fun x hx hl' => by have := (hY x hx).2.1; omega, h.px, h.old, h.blk.kp k (fun hx => (hY pe hx).1 rfl), h.left, h.cap, h.pls.kpn flatI k fun g hg hx => (hY g hx).2.2 vp (by simp) hg, h.raw.kpn flatRaw k fun g hg hx => (hY g hx).2.2 vo (by simp) hg, key (fun r hr g hg hx => (hY g hx).2.2 r.to (by simp; exact .inr (.inr ⟨r, hr, rfl⟩)) hg) h.ins, h.apart, h.own⟩
/-- the emitter's own block is turned -/
theorem EmV.kpe (h : EmV C w0 X pe out lf ps vo al cl vp rs w) (k : Kp [pe] w w') : Sub C w' ∧ Kp X w0 w' ∧ Own rInt 3 (pe + 1) w' vp ps ∧ Own rRaw 50 (pe + 1) w' vo rs ∧ All2 (InsAt (pe + 1) w') rs out := by
  refine ⟨h.sub.kp k fun b o v hc => by simpa using (h.nc hc).1, h.kp.trans k fun x hx hl' => by simp at hx; subst hx; exact h.px hl', h.pls.kpl k (by simp), h.raw.kpl k (by simp), h.ins.mono fun r x hx => ⟨hx.1, hx.2.1, hx.2.2.1, hx.2.2.2.1, hx.2.2.2.2.1, hx.2.2.2.2.2.1, hx.2.2.2.2.2.2.1, hx.2.2.2.2.2.2.2.kpl k (by simp)⟩⟩
/-- what is left is set -/
theorem EmV.setLeft (h : EmV C w0 X pe out lf ps vo al cl vp rs w) {al' : Option Addr} {lf' : List Nd} {cl' : Nat} (hs : Sl rNd C al' lf') (hc : lf'.length ≤ cl') {K : World → Prop} (hK : ∀ w', EmV C w0 X pe out lf' ps vo al' cl' vp rs w' → Kp [pe] w w' → K w') : EvSt w ⟨pe, 1, none⟩ (.slice al' lf'.length cl') K := by
  refine Go.Wx.st h.blk (by simp) rfl fun w' hB hsz hk => hK w' ?_ hk
  obtain ⟨h1, h2, h3, h4, h5⟩ := h.kpe hk
  exact ⟨h1, h2, h.px, h.old, hB, hs, hc, h3, h4, h5, h.apart, h.own⟩
theorem own_one {α : Type} {R : Rd α} {e lo : Nat} {v : Value} {l : List α} (h : Own R e lo w v l) : v.oneCell' = true := by
  obtain ⟨a, c, rfl⟩ := h.len
  rfl
theorem ins_kpn {lo : Nat} {X : List Nat} : ∀ {l : List Raw} {m : List Ins}, Kp X w w' → (∀ (i : Nat) (r : Raw) (g : Nat), l[i]? = some r → r.to.ownBlock = some g → g ∉ X) → All2 (InsAt lo w) l m → All2 (InsAt lo w') l m
  | [], [], _, _, _ => trivial
  | r :: l, x :: m, k, hx, ⟨h, hr⟩ => ⟨⟨h.1, h.2.1, h.2.2.1, h.2.2.2.1, h.2.2.2.2.1, h.2.2.2.2.2.1, h.2.2.2.2.2.2.1, h.2.2.2.2.2.2.2.kpn flatI k fun g hg => hx 0 r g rfl hg⟩, ins_kpn k (fun i r' g hi => hx (i + 1) r' g (by simpa using hi)) hr⟩
  | [], _ :: _, _, _, h => h.elim
  | _ :: _, [], _, _, h => h.elim
theorem ins_kpn' {pe : Nat} {l : List Raw} {m : List Ins} (k : Kp [pe] w w') (h : All2 (InsAt (pe + 1) w) l m) : All2 (InsAt (pe + 1) w') l m :=
  h.mono fun r x hx => ⟨hx.1, hx.2.1, hx.2.2.1, hx.2.2.2.1, hx.2.2.2.2.1, hx.2.2.2.2.2.1, hx.2.2.2.2.2.2.1, hx.2.2.2.2.2.2.2.kpl k (by simp)⟩
/-- who owns what: the blocks lie above the emitter's own -/
theorem EmV.owned (h : EmV C w0 X pe out lf ps vo al cl vp rs w) {u : Value} (hu : u ∈ vo :: vp :: rs.map Raw.to) {g : Nat} (hg : u.ownBlock = some g) : pe + 1 ≤ g ∧ g < w.heap.size := by
  simp only [List.mem_cons, List.mem_map] at hu
  rcases hu with rfl | rfl | ⟨r, hr, rfl⟩
  · exact h.raw.block _ hg
  · exact h.pls.block _ hg
  · obtain ⟨i, hi⟩ := List.getElem?_of_mem hr
    have hil := get_lt hi
    have hlen := h.ins.length
    obtain ⟨r', hr', hx⟩ := h.ins.get (i := i) (a := out[i]'(by omega)) (by simp)
    rw [hi] at hr'
    obtain rfl := Option.some.inj hr'
    exact hx.2.2.2.2.2.2.2.block _ hg
theorem EmV.grown (h : EmV C w0 X pe out lf ps vo al cl vp rs w) {k : Nat} {v v' : Value} (hk : (vo :: vp :: rs.map Raw.to)[k]? = some v) (hv : v'.ownBlock = v.ownBlock ∨ v'.ownBlock = some w.heap.size) : Apart ((vo :: vp :: rs.map Raw.to).set k v') :=
  h.apart.set hk (hv.elim .inl fun e => .inr ⟨_, e, fun u hu he => by have := (h.owned hu he).2; omega⟩)
theorem EmV.grownOwn (h : EmV C w0 X pe out lf ps vo al cl vp rs w) {k : Nat} {v v' : Value} (hk : (vo :: vp :: rs.map Raw.to)[k]? = some v) (hv : v'.ownBlock = v.ownBlock ∨ v'.ownBlock = some w.heap.size) : ∀ u ∈ (vo :: vp :: rs.map Raw.to).set k v', ∀ g, u.ownBlock = some g → g < w0.heap.size → g ∈ X := by
  intro u hu g hg hlt
  rcases List.mem_or_eq_of_mem_set hu with hu | rfl
  · exact h.own u hu g hg hlt
  · rcases hv with e | e
    · exact h.own v (List.mem_of_getElem? hk) g (by rw [← e]; exact hg) hlt
    · rw [e] at hg
      have := Option.some.inj hg
      have := h.kp.size
      omega
theorem EmV.others (h : EmV C w0 X pe out lf ps vo al cl vp rs w) {k : Nat} {v : Value} (hk : (vo :: vp :: rs.map Raw.to)[k]? = some v) {i : Nat} {u : Value} (hi : (vo :: vp :: rs.map Raw.to)[i]? = some u) (hne : i ≠ k) {g : Nat} (hg : u.ownBlock = some g) : g ∉ v.ownBlock.toList := fun hx =>
  hne (h.apart i k u v g hi hk hg (by simpa using hx))
theorem EmV.kpo (h : EmV C w0 X pe out lf ps vo al cl vp rs w) {k : Nat} {v : Value} (hk : (vo :: vp :: rs.map Raw.to)[k]? = some v) (hkp : Kp v.ownBlock.toList w w') : Sub C w' ∧ Kp X w0 w' ∧ Bk w'.heap pe [vo, .slice al lf.length cl, vp, .int .i64 16384] 88 := by
  have hb : ∀ x, x ∈ v.ownBlock.toList → pe + 1 ≤ x := fun x hx => (h.owned (List.mem_of_getElem? hk) (by simpa using hx)).1
  have hu := List.mem_of_getElem? hk
  exact ⟨h.sub.kp hkp fun b o u hc hx => (h.nc hc).2 v hu (by simpa using hx), h.kp.trans hkp fun x hx hl' => h.own v hu x (by simpa using hx) hl', h.blk.kp hkp fun hx => by have := hb pe hx; omega⟩

/-- a place more -/
theorem EmV.pushPlace (h : EmV C w0 X pe out lf ps vo al cl vp rs w) {b c ty : Nat} {q : Int} (hq : I64 q) (hc : Cl w.heap b 0 (.int .i64 q)) (hn : ps.length ≤ 1048576) {K : Value → World → Prop}
    (hK : ∀ vp' w', (∀ K', (∀ w'', EmV C w0 X pe out lf (ps ++ [q]) vo al cl vp' rs w'' → K' w'') → EvSt w' ⟨pe, 2, none⟩ vp' K') → K vp' w') : EvRun Tryd.prog (Builtin.append_ #[48, 48] ty #[vp, .slice (some ⟨b, 0, none⟩) 1 c]) w K := by
  refine h.pls.ap1 τok rfl rfl Nat.one_pos q [.int .i64 q] ⟨rfl, hq⟩ (fun j u hj => by
    match j with
    | 0 => simp at hj; subst hj; exact hc
    | j + 1 => simp at hj) (by omega) (by simp only [maxLen]; omega) fun vp' w1 hO hk hown => ?_
  obtain ⟨hsub, hkp, hB1⟩ := h.kpo (k := 1) (v := vp) rfl hk
  have hraw : Own rRaw 50 (pe + 1) w1 vo rs := h.raw.kpn flatRaw hk fun g hg => h.others (k := 1) (v := vp) rfl (i := 0) rfl (by omega) hg
  have hins : All2 (InsAt (pe + 1) w1) rs out := ins_kpn hk (fun i r g hi hg => h.others (k := 1) (v := vp) rfl (i := i + 2) (u := r.to) (by simp [hi]) (by omega) hg) h.ins
  have hap : Apart (vo :: vp' :: rs.map Raw.to) := by simpa using h.grown (k := 1) (v := vp) (v' := vp') rfl hown
  refine hK vp' w1 fun K' hK' => ?_
  refine Go.Wx.st hB1 (by simp) (own_one hO) fun w2 hB2 hs2 hk2 => hK' w2 ?_
  have hk02 : Kp X w0 w2 := hkp.trans hk2 fun x hx hl' => by simp at hx; subst hx; exact h.px hl'
  exact ⟨hsub.kp hk2 fun b o v hc => by simpa using (h.nc hc).1, hk02, h.px, h.old, hB2, h.left, h.cap, hO.kpl hk2 (by simp), hraw.kpl hk2 (by simp), ins_kpn' hk2 hins, hap, by simpa using h.grownOwn (k := 1) (v := vp) (v' := vp') rfl hown⟩

/-- an instruction more -/
theorem EmV.pushIns (h : EmV C w0 X pe out lf ps vo al cl vp rs w) {b c ty : Nat} {op a bb : Int} (h1 : I64 op) (h2 : I64 a) (h3 : I64 bb) (hc : ∀ j u, [Value.int .i64 op, .int .i64 a, .int .i64 bb, .slice none 0 0][j]? = some u → Cl w.heap b j u) (hn : out.length ≤ 1048576) {K : Value → World → Prop}
    (hK : ∀ vo' w', (∀ K', (∀ w'', EmV C w0 X pe (out ++ [ins0 op a bb]) lf ps vo' al cl vp (rs ++ [⟨op, a, bb, .slice none 0 0⟩]) w'' → K' w'') → EvSt w' ⟨pe, 0, none⟩ vo' K') → K vo' w') : EvRun Tryd.prog (Builtin.append_ #[39, 39] ty #[vo, .slice (some ⟨b, 0, none⟩) 1 c]) w K := by
  have hlen := h.ins.length
  refine h.raw.ap1 τok rfl rfl (by decide) ⟨op, a, bb, .slice none 0 0⟩ [.int .i64 op, .int .i64 a, .int .i64 bb, .slice none 0 0] ⟨rfl, rfl⟩ (fun j u hj => by rw [Nat.zero_add]; exact hc j u hj) (by omega) (by simp only [maxLen]; omega) fun vo' w1 hO hk hown => ?_
  obtain ⟨hsub, hkp, hB1⟩ := h.kpo (k := 0) (v := vo) rfl hk
  have hpls : Own rInt 3 (pe + 1) w1 vp ps := h.pls.kpn flatI hk fun g hg => h.others (k := 0) (v := vo) rfl (i := 1) rfl (by omega) hg
  have hins : All2 (InsAt (pe + 1) w1) rs out := ins_kpn hk (fun i r g hi hg => h.others (k := 0) (v := vo) rfl (i := i + 2) (u := r.to) (by simp [hi]) (by omega) hg) h.ins
  have hlow1 := hO.low
  have hins2 : All2 (InsAt (pe + 1) w1) (rs ++ [⟨op, a, bb, .slice none 0 0⟩]) (out ++ [ins0 op a bb]) := hins.append ⟨⟨rfl, rfl, rfl, h1, h2, h3, by simp [ins0], Own.nil _ _ hlow1⟩, trivial⟩
  have hap : Apart (vo' :: vp :: (rs ++ [(⟨op, a, bb, .slice none 0 0⟩ : Raw)]).map Raw.to) := by
    have := (h.grown (k := 0) (v := vo) (v' := vo') rfl hown).app (v := .slice none 0 0) rfl
    simpa using this
  refine hK vo' w1 fun K' hK' => ?_
  refine Go.Wx.st hB1 (by simp) (own_one hO) fun w2 hB2 hs2 hk2 => hK' w2 ?_
  have hk02 : Kp X w0 w2 := hkp.trans hk2 fun x hx hl' => by simp at hx; subst hx; exact h.px hl'
  refine ⟨hsub.kp hk2 fun b o v hc => by simpa using (h.nc hc).1, hk02, h.px, h.old, hB2, h.left, h.cap, hpls.kpl hk2 (by simp), hO.kpl hk2 (by simp), ins_kpn' hk2 hins2, hap, fun u hu g hg hlt => ?_⟩
  have hgo := h.grownOwn (k := 0) (v := vo) (v' := vo') rfl hown
  simp only [List.map_append, List.map_cons, List.map_nil, List.mem_cons, List.mem_append, List.not_mem_nil, or_false] at hu
  rcases hu with rfl | rfl | hu | rfl
  · exact hgo _ (by simp) g hg hlt
  · exact hgo _ (by simp) g hg hlt
  · exact hgo u (by simp only [List.set_cons_zero, List.mem_cons]; exact .inr (.inr hu)) g hg hlt
  · cases hg

/-- a place to go on more -/
theorem EmV.pushTo (h : EmV C w0 X pe out lf ps vo al cl vp rs w) {i : Nat} {r : Raw} {x : Ins} (hr : rs[i]? = some r) (hx : out[i]? = some x) {b c ty : Nat} {q : Int} (hq : I64 q) (hc : Cl w.heap b 0 (.int .i64 q)) (hn : x.to.length + 1 ≤ 1048576) (hol : out.length ≤ 1048576) {K : Value → World → Prop}
    (hK : ∀ g cap tv' w', vo = .slice (some ⟨g, 0, none⟩) out.length cap → Bk w'.heap pe [vo, .slice al lf.length cl, vp, .int .i64 16384] 88 → Kp r.to.ownBlock.toList w w' → (∀ K', (∀ w'', EmS C w0 X pe (addTo out i q) lf ps w'' → Bk w''.heap pe [vo, .slice al lf.length cl, vp, .int .i64 16384] 88 → K' w'') → EvSt w' ⟨g, 0 + i * 4 + 3, none⟩ tv' K') → K tv' w') : EvRun Tryd.prog (Builtin.append_ #[48, 48] ty #[r.to, .slice (some ⟨b, 0, none⟩) 1 c]) w K := by
  have hlen := h.ins.length
  obtain ⟨r', hr', hxi⟩ := h.ins.get hx
  rw [hr] at hr'
  obtain rfl := Option.some.inj hr'
  obtain ⟨e1, e2, e3, i1, i2, i3, htl, hOt⟩ := hxi
  have hkk : (vo :: vp :: rs.map Raw.to)[i + 2]? = some r.to := by simp [hr]
  refine hOt.ap1 τok rfl rfl Nat.one_pos q [.int .i64 q] ⟨rfl, hq⟩ (fun j u hj => by
    match j with
    | 0 => simp at hj; subst hj; exact hc
    | j + 1 => simp at hj) (by omega) (by simp only [maxLen]; omega) fun tv' w1 hO hk hown => ?_
  obtain ⟨hsub, hkp, hB1⟩ := h.kpo hkk hk
  have hpls : Own rInt 3 (pe + 1) w1 vp ps := h.pls.kpn flatI hk fun g hg => h.others hkk (i := 1) rfl (by omega) hg
  have hraw : Own rRaw 50 (pe + 1) w1 vo rs := h.raw.kpn flatRaw hk fun g hg => h.others hkk (i := 0) rfl (by omega) hg
  obtain ⟨g, cap, hvo, hgl, hst⟩ := hraw.st (i := i) (j := 3) (x := r) (y := ⟨r.op, r.a, r.b, tv'⟩) hr (by decide) (own_one hO) (fun cs hcs => by
    obtain ⟨rfl, _⟩ := hcs
    exact ⟨rfl, own_one hO⟩)
  rw [hlen] at hvo
  refine hK g cap tv' w1 hvo hB1 hk fun K' hK' => hst fun w2 hO2 hs2 hk2 => hK' w2 ?_ (hB1.kp hk2 (by simp; omega))
  have hgo : vo.ownBlock = some g := by rw [hvo]; rfl
  have hg1 := h.owned (u := vo) (by simp) hgo
  have hk02 : Kp X w0 w2 := hkp.trans hk2 fun x hx hl' => by
    have hx : x = g := by simpa using hx
    rw [hx] at hl' ⊢
    exact h.own vo (by simp) g hgo hl'
  have hgr := h.grown hkk hown
  have hto2 : Own rInt 3 (pe + 1) w2 tv' (x.to ++ [q]) := hO.kpn flatI hk2 fun g' hg' hx => by
    have hx : g' = g := by simpa using hx
    subst hx
    have := hgr 0 (i + 2) vo tv' g' (by simp) (by simp [get_lt hr]) hgo hg'
    omega
  have hins : All2 (InsAt (pe + 1) w2) (rs.set i ⟨r.op, r.a, r.b, tv'⟩) (out.set i ⟨x.op, x.a, x.b, x.to ++ [q]⟩) := by
    have key : ∀ (l : List Raw) (m : List Ins) (n : Nat), (∀ (j : Nat) (r' : Raw) (g' : Nat), j ≠ n → l[j]? = some r' → r'.to.ownBlock = some g' → g' ∉ r.to.ownBlock.toList ∧ g' ≠ g) → All2 (InsAt (pe + 1) w) l m → All2 (InsAt (pe + 1) w2) (l.set n ⟨r.op, r.a, r.b, tv'⟩) (m.set n ⟨x.op, x.a, x.b, x.to ++ [q]⟩) := by
      intro l
      induction l with
      | nil => intro m n _ h; match m, h with | [], _ => trivial
      | cons r0 l ih =>
        intro m n hap h
        match m, n, h with
        | x0 :: m, 0, ⟨hx0, hr0⟩ =>
          refine ⟨⟨e1, e2, e3, i1, i2, i3, by simpa using hn, hto2⟩, ?_⟩
          exact ins_kpn hk2 (fun j r' g' hj hg' hx => (hap (j + 1) r' g' (by omega) (by simpa using hj) hg').2 (by simpa using hx)) (ins_kpn hk (fun j r' g' hj hg' => (hap (j + 1) r' g' (by omega) (by simpa using hj) hg').1) hr0)
        | x0 :: m, n + 1, ⟨hx0, hr0⟩ =>
          refine ⟨?_, ih m n (fun j r' g' hj hi => hap (j + 1) r' g' (by omega) (by simpa using hi)) hr0⟩
          exact ⟨hx0.1, hx0.2.1, hx0.2.2.1, hx0.2.2.2.1, hx0.2.2.2.2.1, hx0.2.2.2.2.2.1, hx0.2.2.2.2.2.2.1, (hx0.2.2.2.2.2.2.2.kpn flatI hk fun g' hg' => (hap 0 r0 g' (by omega) rfl hg').1).kpn flatI hk2 fun g' hg' hx => (hap 0 r0 g' (by omega) rfl hg').2 (by simpa using hx)⟩
    refine key rs out i (fun j r' g' hj hr' hg' => ⟨h.others hkk (i := j + 2) (u := r'.to) (by simp [hr']) (by omega) hg', fun e => ?_⟩) h.ins
    subst e
    have := h.apart 0 (j + 2) vo r'.to g' rfl (by simp [hr']) hgo hg'
    omega
  have hap : Apart (vo :: vp :: (rs.set i ⟨r.op, r.a, r.b, tv'⟩).map Raw.to) := by
    rw [List.map_set]
    simpa using hgr
  have hB2 := hB1.kp hk2 (by simp; omega)
  refine ⟨vo, al, cl, vp, _, ⟨hsub.kp hk2 fun b o v hc => by simp only [List.mem_singleton]; exact fun e => (h.nc hc).2 vo (by simp) (by rw [e]; exact hgo), hk02, h.px, h.old, hB2, h.left, h.cap, hpls.kpn flatI hk2 fun g' hg' hx => ?_, hO2, ?_, hap, by have := h.grownOwn hkk hown; rw [List.map_set]; simpa using this⟩⟩
  · have hx : g' = g := by simpa using hx
    subst hx
    have := h.apart 0 1 vo vp g' rfl rfl hgo hg'
    omega
  · unfold addTo
    rw [hx]
    exact hins
end
end Go.Proofs.YtjpdkcejkogciaaDoor

/-
  Package bare: kids, binders, end, Shape.
-/
set_option linter.unusedSimpArgs false
set_option linter.unusedVariables false
namespace Cd
def NdB (n : Nd) (kids : Int) (ok : Bool) : Prop := match ndB n with
  | some c => ok = true ∧ kids = c
  | none => ok = false
theorem ndB_of {n : Nd} {ok : Bool} {kids c : Int} (e : ndB n = if ok then some c else none) (hk : kids = c) : NdB n kids ok := by
  unfold NdB
  rw [e]
  cases ok
  · rfl
  · exact ⟨rfl, hk⟩
end Cd
namespace Go.Proofs.YtjpdkcejkogciaaDoor
open Go.Wx Cd

theorem bentry_ct (a : Int) (w : World) : CallOk Tryd.prog 105 ∧ Calls Tryd.prog 105 #[.int .i64 a] w (fun e w' => e = .returned (.bool (inM a 0 63)) ∧ Kp [] w w') := by
  refine ⟨⟨_, Tryd.func105, rfl, by decide⟩, ?_⟩
  refine calls_of (args := [_]) 9 [.tmp 2] τok Tryd.func105 rfl rfl rfl (Nat.le_of_ble_eq_true rfl) ?_
  refine br_dec (fun h => ?_) (fun h => ?_)
  · refine ⟨?_, Kp.refl _ _⟩
    simp only [one, inM]
    rw [decide_eq_true h, Bool.true_and]
    congr 2
    exact decide_eq_decide.2 (by omega)
  · refine ⟨?_, Kp.refl _ _⟩
    simp only [one, inM]
    rw [decide_eq_false h, Bool.false_and]

theorem binders_ct (n : Nd) (k : Nat) (w : World) : CallOk Tryd.prog 98 ∧ Calls Tryd.prog 98 #[.agg #[.int .i64 n.op, .int .i64 n.a, .int .i64 n.b], .int .i64 k] w (fun e w' => e = .returned (.int .i64 (bndB n k)) ∧ Kp [] w w') := by
  obtain ⟨RES, hRES⟩ : ∃ r, bndB n k = r := ⟨_, rfl⟩
  rw [hRES]
  refine ⟨⟨_, Tryd.func98, rfl, by decide⟩, ?_⟩
  refine calls_of (args := [_, _]) 22 [.tmp 4] τok Tryd.func98 rfl rfl rfl (Nat.le_of_ble_eq_true rfl) ?_
  refine new fun bn w1 hbn hN hsn hk1 => ?_
  have hN : Bk w1.heap bn [.int .i64 n.op, .int .i64 n.a, .int .i64 n.b] 47 := hN
  have ret : ∀ x w', Kp [] w w' → RES = x → Ending.returned (one [.int .i64 x]) = .returned (.int .i64 RES) ∧ Kp [] w w' := fun n w' h e => ⟨by rw [e]; rfl, h⟩
  unfold bndB at hRES
  refine ld (hN.cl rfl).cell ?_
  refine br_dec (fun o1 => ?_) (fun o1 => ?_)
  · refine br_yes o1 ?_
    exact ret _ _ hk1 (by rw [← hRES, if_pos (.inl o1)])
  refine ld (hN.cl rfl).cell ?_
  refine br_dec (fun o2 => ?_) (fun o2 => ?_)
  · refine br_dec (fun h1 => ?_) (fun h1 => ?_)
    · exact ret _ _ hk1 (by rw [← hRES, if_pos (.inr ⟨o2, by omega⟩)])
    · refine ld (hN.cl rfl).cell ?_
      refine br_no (show ¬ n.op = 29 by omega) ?_
      exact ret _ _ hk1 (by rw [← hRES, if_neg (by omega), if_neg (by omega)])
  · refine ld (hN.cl rfl).cell ?_
    refine br_dec (fun o3 => ?_) (fun o3 => ?_)
    · refine ld (hN.cl rfl).cell ?_
      exact ret _ _ hk1 (by rw [← hRES, if_neg (by omega), if_pos o3])
    · exact ret _ _ hk1 (by rw [← hRES, if_neg (by omega), if_neg o3])

theorem kidsB_ct (n : Nd) (nb : I64 n.b) (w : World) : CallOk Tryd.prog 97 ∧ Calls Tryd.prog 97 #[.agg #[.int .i64 n.op, .int .i64 n.a, .int .i64 n.b]] w (fun e w' => e = .returned (.int .i64 ((ndB n).getD (-1))) ∧ Kp [] w w') := by
  refine ⟨⟨_, Tryd.func97, rfl, by decide⟩, ?_⟩
  refine calls_ev (args := [_]) 111 [.tmp 2] Tryd.func97 rfl rfl rfl (Nat.le_of_ble_eq_true rfl) ?_
  refine ev_seq τok ?_
  refine new fun bn w1 hbn hN hsn hk1 => ?_
  have hN : Bk w1.heap bn [.int .i64 n.op, .int .i64 n.a, .int .i64 n.b] 47 := hN
  refine ev_mid τok (fun z : Bool => [(1, .pointer (some ⟨bn, 0, none⟩)), (3, .bool z)]) (fun z w' => z = n.zero ∧ w1 = w') ?_ ?_
  · refine ld (hN.cl rfl).cell ?_
    refine br_dec (fun ha => ?_) (fun ha => ?_)
    · refine ld (hN.cl rfl).cell ?_
      exact ⟨_, rfl, ⟨rfl, rfl, trivial⟩, by simp [Nd.zero, ha], rfl⟩
    · exact ⟨_, rfl, ⟨rfl, rfl, trivial⟩, by simp [Nd.zero, ha], rfl⟩
  rintro _ _ ⟨rfl, rfl⟩
  refine ev_seq τok ?_
  refine ev_mid τok (fun q : Int × Bool => [(4, .int .i64 q.1), (5, .bool q.2)]) (fun q w' => Kp [] w1 w' ∧ NdB n q.1 q.2) ?_ ?_
  · have hk11 := Kp.refl [] w1
    refine ld (hN.cl rfl).cell ?_
    refine br_dec (fun o1 => ?_) (fun o1 => ?_)
    · refine ld (hN.cl rfl).cell ?_
      refine br_dec (fun g1 => ?_) (fun g1 => ?_)
      · refine ld (hN.cl rfl).cell ?_
        refine br_dec (fun g2 => ?_) (fun g2 => ?_)
        · refine ld (hN.cl rfl).cell ?_
          have hi : inM n.a 0 1048576 = true := by simp [inM, g1, g2]
          exact ⟨(_, _), rfl, ⟨rfl, rfl, trivial⟩, hk11, ndB_of (c := 0) (by unfold ndB; (rw [if_pos o1, hi, Bool.true_and]) <;> rfl) rfl⟩
        · have hi : inM n.a 0 1048576 = false := by simp [inM]; omega
          exact ⟨(_, _), rfl, ⟨rfl, rfl, trivial⟩, hk11, ndB_of (c := 0) (by unfold ndB; (rw [if_pos o1, hi, Bool.false_and]) <;> rfl) rfl⟩
      · have hi : inM n.a 0 1048576 = false := by simp [inM]; omega
        exact ⟨(_, _), rfl, ⟨rfl, rfl, trivial⟩, hk11, ndB_of (c := 0) (by unfold ndB; (rw [if_pos o1, hi, Bool.false_and]) <;> rfl) rfl⟩
    refine br_dec (fun o2 => ?_) (fun o2 => ?_)
    · skip
      exact ⟨(_, _), rfl, ⟨rfl, rfl, trivial⟩, hk11, ndB_of (c := 0) (by unfold ndB; (rw [if_neg o1, if_pos o2]) <;> rfl) rfl⟩
    refine br_dec (fun o3 => ?_) (fun o3 => ?_)
    · skip
      exact ⟨(_, _), rfl, ⟨rfl, rfl, trivial⟩, hk11, ndB_of (c := 1) (by unfold ndB; (rw [if_neg o1, if_neg o2, if_pos o3]) <;> rfl) rfl⟩
    refine br_dec (fun o4 => ?_) (fun o4 => ?_)
    · refine br_yes o4 ?_
      exact ⟨(_, _), rfl, ⟨rfl, rfl, trivial⟩, hk11, ndB_of (c := 2) (by unfold ndB; (rw [if_neg o1, if_neg o2, if_neg o3, if_pos o4]) <;> rfl) rfl⟩
    refine br_dec (fun o5 => ?_) (fun o5 => ?_)
    · skip
      exact ⟨(_, _), rfl, ⟨rfl, rfl, trivial⟩, hk11, ndB_of (c := 2) (by unfold ndB; (rw [if_neg o1, if_neg o2, if_neg o3, if_neg o4, if_pos o5]) <;> rfl) rfl⟩
    refine br_dec (fun o6 => ?_) (fun o6 => ?_)
    · refine ld (hN.cl rfl).cell ?_
      refine ev_call (bentry_ct _ w1) ?_
      rintro e w2 ⟨rfl, hk2⟩
      have hN2 := hN.kp hk2 (by simp)
      refine br (fun hb => ?_) (fun hb => ?_)
      · refine ld (hN2.cl rfl).cell ?_
        exact ⟨(_, _), rfl, ⟨rfl, rfl, trivial⟩, hk2, ndB_of (c := 0) (by unfold ndB; (rw [if_neg o1, if_neg o2, if_neg o3, if_neg o4, if_neg o5, if_pos o6, hb, Bool.true_and]) <;> rfl) rfl⟩
      · skip
        exact ⟨(_, _), rfl, ⟨rfl, rfl, trivial⟩, hk2, ndB_of (c := 0) (by unfold ndB; (rw [if_neg o1, if_neg o2, if_neg o3, if_neg o4, if_neg o5, if_pos o6, hb, Bool.false_and]) <;> rfl) rfl⟩
    refine br_dec (fun o7 => ?_) (fun o7 => ?_)
    · refine ld (hN.cl rfl).cell ?_
      refine ev_call (bentry_ct _ w1) ?_
      rintro e w2 ⟨rfl, hk2⟩
      have hN2 := hN.kp hk2 (by simp)
      refine br (fun hb => ?_) (fun hb => ?_)
      · refine ld (hN2.cl rfl).cell ?_
        refine br_dec (fun g1 => ?_) (fun g1 => ?_)
        · refine ld (hN2.cl rfl).cell ?_
          exact ⟨(_, _), rfl, ⟨rfl, rfl, trivial⟩, hk2, ndB_of (c := 0) (by unfold ndB; rw [if_neg o1, if_neg o2, if_neg o3, if_neg o4, if_neg o5, if_neg o6, if_pos o7, hb, Bool.true_and]; show _ = if decide (n.b < 16) = true then some 0 else none; simp only [inM, decide_eq_true g1, Bool.true_and]; simp only [decide_eq_true_eq]; by_cases hq : n.b < 16 <;> simp [hq] <;> omega) rfl⟩
        · have hi : inM n.b 0 15 = false := by simp [inM]; omega
          exact ⟨(_, _), rfl, ⟨rfl, rfl, trivial⟩, hk2, ndB_of (c := 0) (by unfold ndB; (rw [if_neg o1, if_neg o2, if_neg o3, if_neg o4, if_neg o5, if_neg o6, if_pos o7, hi, Bool.and_false]) <;> rfl) rfl⟩
      · skip
        exact ⟨(_, _), rfl, ⟨rfl, rfl, trivial⟩, hk2, ndB_of (c := 0) (by unfold ndB; (rw [if_neg o1, if_neg o2, if_neg o3, if_neg o4, if_neg o5, if_neg o6, if_pos o7, hb, Bool.false_and]) <;> rfl) rfl⟩
    refine br_dec (fun o8 => ?_) (fun o8 => ?_)
    · refine drawQ τok (fun w' => Kp [] w1 w') (by kernel_rfl) ((Kp.refl [] w1).dr _) ?_
      refine ldK (hN.cl rfl) ?_
      obtain ⟨z, hz⟩ : ∃ z, IntKind.wrap .i64 (1 + n.b) = z := ⟨_, rfl⟩
      refine intv z hz ?_
      refine ldK (hN.cl rfl) ?_
      refine callK (fun w' hk' => bentry_ct _ w') ?_
      refine br (fun hb => ?_) (fun hb => ?_)
      · refine ldK (hN.cl rfl) ?_
        refine br_dec (fun g1 => ?_) (fun g1 => ?_)
        · refine ldK (hN.cl rfl) ?_
          intro w2 hk2
          refine ⟨(_, _), rfl, ⟨rfl, rfl, trivial⟩, hk2, ?_⟩
          unfold NdB ndB
          rw [if_neg o1, if_neg o2, if_neg o3, if_neg o4, if_neg o5, if_neg o6, if_neg o7, if_pos o8, hb, Bool.true_and]
          show match (if inM n.b 0 16 = true then some (1 + n.b) else none) with
            | some c => decide (n.b ≤ 16) = true ∧ z = c
            | none => decide (n.b ≤ 16) = false
          by_cases g2 : n.b ≤ 16
          · have hi : inM n.b 0 16 = true := by simp [inM]; omega
            rw [hi, if_pos rfl]
            exact ⟨decide_eq_true g2, by rw [← hz]; exact IntWalk.i64_in _ (by omega)⟩
          · have hi : inM n.b 0 16 = false := by simp [inM]; omega
            rw [hi, if_neg (by simp)]
            exact decide_eq_false g2
        · intro w2 hk2
          have hi : inM n.b 0 16 = false := by simp [inM]; omega
          refine ⟨(_, _), rfl, ⟨rfl, rfl, trivial⟩, hk2, ?_⟩
          unfold NdB ndB
          rw [if_neg o1, if_neg o2, if_neg o3, if_neg o4, if_neg o5, if_neg o6, if_neg o7, if_pos o8, hi, Bool.and_false]
          rfl
      · intro w2 hk2
        refine ⟨(_, _), rfl, ⟨rfl, rfl, trivial⟩, hk2, ?_⟩
        unfold NdB ndB
        rw [if_neg o1, if_neg o2, if_neg o3, if_neg o4, if_neg o5, if_neg o6, if_neg o7, if_pos o8, hb, Bool.false_and]
        rfl
    refine br_dec (fun o9 => ?_) (fun o9 => ?_)
    · refine drawR τok (by kernel_rfl) ?_
      refine ldR (hN.cl rfl) ?_
      refine ldR (hN.cl rfl) ?_
      have hkm : ∀ m, Kp [] w1 { w1 with drawn := m } := fun m => hk11.dr m
      refine br_dec (fun g1 => ?_) (fun g1 => ?_)
      · refine ldR (hN.cl rfl) ?_
        refine br_dec (fun g2 => ?_) (fun g2 => ?_)
        · refine ldR (hN.cl rfl) ?_
          refine br_dec (fun g3 => ?_) (fun g3 => ?_)
          · refine ldR (hN.cl rfl) ?_
            refine ldR (hN.cl rfl) ?_
            intro m
            exact ⟨(_, _), rfl, ⟨rfl, rfl, trivial⟩, hkm m, ndB_of (c := n.b) (by unfold ndB; rw [if_neg o1, if_neg o2, if_neg o3, if_neg o4, if_neg o5, if_neg o6, if_neg o7, if_neg o8, if_pos o9]; show _ = if decide (n.a < n.b) = true then some n.b else none; simp only [inM, decide_eq_true g1, decide_eq_true g2, decide_eq_true g3, Bool.true_and]; simp only [decide_eq_true_eq]; by_cases hq : n.a < n.b <;> simp [hq] <;> omega) rfl⟩
          · intro m
            have hi : inM n.a 0 (n.b - 1) = false := by simp [inM]; omega
            exact ⟨(_, _), rfl, ⟨rfl, rfl, trivial⟩, hkm m, ndB_of (c := n.b) (by unfold ndB; (rw [if_neg o1, if_neg o2, if_neg o3, if_neg o4, if_neg o5, if_neg o6, if_neg o7, if_neg o8, if_pos o9, hi, Bool.and_false]) <;> rfl) rfl⟩
        · intro m
          have hi : inM n.b 1 4 = false := by simp [inM]; omega
          exact ⟨(_, _), rfl, ⟨rfl, rfl, trivial⟩, hkm m, ndB_of (c := n.b) (by unfold ndB; (rw [if_neg o1, if_neg o2, if_neg o3, if_neg o4, if_neg o5, if_neg o6, if_neg o7, if_neg o8, if_pos o9, hi, Bool.false_and]) <;> rfl) rfl⟩
      · intro m
        have hi : inM n.b 1 4 = false := by simp [inM]; omega
        exact ⟨(_, _), rfl, ⟨rfl, rfl, trivial⟩, hkm m, ndB_of (c := n.b) (by unfold ndB; (rw [if_neg o1, if_neg o2, if_neg o3, if_neg o4, if_neg o5, if_neg o6, if_neg o7, if_neg o8, if_pos o9, hi, Bool.false_and]) <;> rfl) rfl⟩
    refine ⟨(0, false), rfl, ⟨rfl, rfl, trivial⟩, hk11, ?_⟩
    unfold NdB ndB
    rw [if_neg o1, if_neg o2, if_neg o3, if_neg o4, if_neg o5, if_neg o6, if_neg o7, if_neg o8, if_neg o9]
  rintro ⟨kids, ok⟩ w2 ⟨hk2, hnd⟩
  refine ev_of τok ?_
  have hk02 := hk1.tr hk2
  simp only at hnd
  unfold NdB at hnd
  refine br (fun g => ?_) (fun g => ?_)
  · have g : ok = false := by simpa using g
    subst g
    cases hq : ndB n with
    | none => exact ⟨rfl, hk02⟩
    | some c => rw [hq] at hnd; cases hnd.1
  · have g : ok = true := by simpa using g
    subst g
    cases hq : ndB n with
    | none => rw [hq] at hnd; cases hnd
    | some c =>
      rw [hq] at hnd
      obtain ⟨_, rfl⟩ := hnd
      exact ⟨rfl, hk02⟩

theorem endB_ct {C : Mem} : ∀ (f : Nat) (ta : Option Addr) (t : List Nd) (tc k : Nat) (w : World), Sub C w → Sl rNd C ta t → k ≤ t.length → t.length - k ≤ f →
    CallOk Tryd.prog 95 ∧ Calls Tryd.prog 95 #[.slice ta t.length tc, .int .i64 k] w (fun e w' => Kp [] w w' ∧ e = .returned (.int .i64 (match (parse cntB nxB f () (t.drop k)).map Prod.snd with
      | some r => ((t.length - r.length : Nat) : Int)
      | none => -1))) := by
  intro f
  induction f with
  | zero =>
    intro ta t tc k w hS ht hk hf
    refine ⟨⟨_, Tryd.func95, rfl, by decide⟩, ?_⟩
    refine calls_of (args := [_, _]) 29 [.tmp 4] τok Tryd.func95 rfl rfl rfl (Nat.le_of_ble_eq_true rfl) ?_
    refine br_dec (fun h => ?_) (fun h => ?_)
    · exact ⟨Kp.refl _ _, rfl⟩
    · exact absurd (show (t.length : Int) ≤ k by omega) h
  | succ f ih =>
    intro ta t tc k w hS ht hk hf
    have hl := ht.1
    obtain ⟨RES, hRES⟩ : ∃ r, (parse cntB nxB (f + 1) () (t.drop k)).map Prod.snd = r := ⟨_, rfl⟩
    rw [hRES]
    refine ⟨⟨_, Tryd.func95, rfl, by decide⟩, ?_⟩
    refine calls_of (args := [_, _]) 29 [.tmp 4] τok Tryd.func95 rfl rfl rfl (Nat.le_of_ble_eq_true rfl) ?_
    refine br_dec (fun h => ?_) (fun h => ?_)
    · refine ⟨Kp.refl _ _, ?_⟩
      rw [← hRES, List.drop_eq_nil_of_le (by omega)]
      rfl
    have hlt : k < t.length := by omega
    obtain ⟨n, hn, hd⟩ := drop_get hlt
    obtain ⟨b, o, rfl, i1, i2, i3, hcells⟩ := sl_nd ht hn
    rw [hd, parse_step] at hRES
    refine ix k rfl hlt ?_
    refine ldN [.int .i64 n.op, .int .i64 n.a, .int .i64 n.b] rfl (fun j v hj => hS _ _ _ (hcells j v hj)) ?_
    refine ev_call (kidsB_ct n i3 w) ?_
    rintro e w1 ⟨rfl, hk1⟩
    cases hq : ndB n with
    | none =>
      refine ⟨hk1, ?_⟩
      rw [← hRES]
      simp only [cntB, hq, Option.map_none]
      rfl
    | some c =>
      have hc := ndB_bd hq
      obtain ⟨cn, hcn⟩ : ∃ cn : Nat, c = cn := ⟨c.toNat, by omega⟩
      subst hcn
      simp only [cntB, hq, Option.map_some, Int.toNat_natCast] at hRES
      refine int64 (by omega) (by omega) ?_
      refine lp τok (σ := Nat × Nat) (fun q => [(0, .slice (some ⟨b, o, none⟩) t.length tc), (1, .int .i64 q.2), (19, .int .i64 cn), (20, .int .i64 q.1)])
        (fun q w' => q.1 ≤ cn ∧ k + 1 ≤ q.2 ∧ q.2 ≤ t.length ∧ Kp [] w w' ∧ RES = (kidsL (parse cntB nxB f) (nxB () n) q.1 (cn - q.1) (t.drop q.2)).map Prod.snd) (fun q => cn - q.1) (0, k + 1) rfl
        ⟨rfl, rfl, rfl, rfl, trivial⟩ ⟨Nat.zero_le _, Nat.le_refl _, hlt, hk1, hRES.symm⟩ ?_
      clear hRES
      rintro ⟨j, a⟩ w2 ⟨hj, ha1, ha2, hk2, hR⟩
      simp only at hj ha1 ha2 hR
      refine br_dec (fun g1 => ?_) (fun g1 => ?_)
      · have hjl : j < cn := by omega
        rw [show cn - j = (cn - (j + 1)) + 1 by omega, kidsL_step] at hR
        refine ev_call (ih (some ⟨b, o, none⟩) t tc a w2 (hS.tr hk2) ht ha2 (by omega)) ?_
        rintro e w3 ⟨hk3, rfl⟩
        have hk03 := hk2.tr hk3
        have e0 : nxB () n j = () := rfl
        rw [e0] at hR
        cases hq' : parse cntB nxB f () (t.drop a) with
        | none =>
          rw [hq'] at hR
          refine ⟨hk03, ?_⟩
          rw [hR]
          rfl
        | some q =>
          obtain ⟨x, r⟩ := q
          rw [hq'] at hR
          obtain ⟨r1, r2, r3, _⟩ := parse_at ha2 hq'
          refine int64 (by (try simp only); omega) (by (try simp only); omega) ?_
          refine ⟨(j + 1, t.length - r.length), by simp only; omega, rfl, ⟨rfl, rfl, rfl, rfl, trivial⟩, hjl, by simp only; omega, by simp only; omega, hk03, ?_⟩
          rw [hR]
          simp only
          rw [← r1]
      · refine ⟨hk2, ?_⟩
        rw [hR, show cn - j = 0 by omega]
        simp only [kidsL, Option.map_some, List.length_drop]
        rw [show t.length - (t.length - a) = a by omega]
        rfl

theorem shapeB_ct {C : Mem} {w : World} (hS : Sub C w) {ta : Option Addr} {t : List Nd} {tc : Nat} (ht : Sl rNd C ta t) : CallOk Tryd.prog 82 ∧ Calls Tryd.prog 82 #[.slice ta t.length tc] w (fun e w' => e = .returned (.int .i64 (shapeB t)) ∧ Kp [] w w') := by
  obtain ⟨RES, hRES⟩ : ∃ r, shapeB t = r := ⟨_, rfl⟩
  rw [hRES]
  refine ⟨⟨_, Tryd.func82, rfl, by decide⟩, ?_⟩
  refine calls_of (args := [_]) 11 [.tmp 2] τok Tryd.func82 rfl rfl rfl (Nat.le_of_ble_eq_true rfl) ?_
  have ret : ∀ x w', Kp [] w w' → RES = x → Ending.returned (one [.int .i64 x]) = .returned (.int .i64 RES) ∧ Kp [] w w' := fun n w' h e => ⟨by rw [e]; rfl, h⟩
  unfold shapeB treeB treeOf at hRES
  refine br_dec (fun g1 => ?_) (fun g1 => ?_)
  · exact ret _ _ (Kp.refl _ _) (by rw [← hRES, if_pos (by omega)])
  rw [if_neg (by omega)] at hRES
  refine ev_call (endB_ct t.length ta t tc 0 w hS ht (Nat.zero_le _) (by omega)) ?_
  rintro e w1 ⟨hk1, rfl⟩
  rw [List.drop_zero]
  cases hq : parse cntB nxB t.length () t with
  | none =>
    rw [hq] at hRES
    exact ret _ _ hk1 hRES.symm
  | some q =>
    obtain ⟨x, r⟩ := q
    rw [hq] at hRES
    have hl := parse_len hq
    have hp := row_pos x
    refine br_dec (fun g2 => ?_) (fun g2 => ?_)
    · refine ret _ _ hk1 ?_
      rw [← hRES]
      cases r with
      | nil => exact absurd (by simp) g2
      | cons y r => rfl
    · refine ret _ _ hk1 ?_
      have g2 : ((t.length - r.length : Nat) : Int) = t.length := by simpa using g2
      have : r = [] := List.length_eq_zero_iff.1 (by omega)
      subst this
      rw [← hRES]
      rfl
end Go.Proofs.YtjpdkcejkogciaaDoor

/-
  Package bare: walk, Below, there.
-/
set_option linter.unusedSimpArgs false
set_option linter.unusedVariables false
namespace Cd
theorem ndB_of_ok {n : Nd} {ks : List Tr} (h : cntB () n = some ks.length) : ndB n = some (ks.length : Int) := by
  unfold cntB at h
  cases hq : ndB n with
  | none => rw [hq] at h; cases h
  | some c =>
    rw [hq] at h
    have := ndB_bd hq
    have h := Option.some.inj h
    congr 1
    omega
/-- more around the kids than there is around the node by as much as there are nodes -/
theorem tsizes_get : ∀ {ks : List Tr} {j : Nat} {x : Tr}, ks[j]? = some x → tsize x ≤ tsizes ks
  | [], j, x, h => by simp at h
  | y :: r, 0, x, h => by simp at h; subst h; simp only [tsizes]; omega
  | y :: r, j + 1, x, h => by
    have := tsizes_get (ks := r) (j := j) (by simpa using h)
    simp only [tsizes]
    omega
end Cd
namespace Go.Proofs.YtjpdkcejkogciaaDoor
open Go.Wx Cd

/-- the memory of a walk: the row, the function that is handed the nodes, the walk itself -/
structure WkM (D : Mem) (t : List Nd) (ta : Option Addr) (tc bt bat bo bf : Nat) (g : FuncId) (caps : Array Value) : Prop where
  row : Sl rNd D ta t
  ct : D bt 0 (.slice ta t.length tc)
  co : D bo 0 (.func (.func g) #[] caps)
  cf : D bf 0 (.func (.func 96) #[] #[.pointer (some ⟨bt, 0, none⟩), .pointer (some ⟨bat, 0, none⟩), .pointer (some ⟨bo, 0, none⟩), .pointer (some ⟨bf, 0, none⟩)])
  apart : ∀ b o v, D b o v → b ≠ bat

theorem walk1_ct {D : Mem} {t : List Nd} {ta : Option Addr} {tc bt bat bo bf : Nat} {g : FuncId} {caps : Array Value} (hm : WkM D t ta tc bt bat bo bf g caps) (G : Nd → Int → Bool)
    (hone : ∀ (n : Nd) (ar : Int) (w : World), 0 ≤ ar → ar ≤ 1099511627776 → I64 n.a → (∃ c, ndB n = some c) → Sub D w → CallOk Tryd.prog g ∧ Calls Tryd.prog g (#[] ++ [.agg #[.int .i64 n.op, .int .i64 n.a, .int .i64 n.b], .int .i64 ar].toArray ++ caps) w (fun e w' => e = .returned (.bool (G n ar)) ∧ Kp [] w w')) :
    ∀ (f : Nat) (x : Tr) (r : List Nd) (k : Nat) (ar : Int) (w : World), tsize x ≤ f → k ≤ t.length → t.drop k = row x ++ r → okT cntB nxB x () → Sub D w → Bk w.heap bat [.int .i64 k] 3 → 0 ≤ ar → ar + 4 * tsize x ≤ 1099511627776 →
      CallOk Tryd.prog 96 ∧ Calls Tryd.prog 96 #[.int .i64 ar, .pointer (some ⟨bt, 0, none⟩), .pointer (some ⟨bat, 0, none⟩), .pointer (some ⟨bo, 0, none⟩), .pointer (some ⟨bf, 0, none⟩)] w
        (fun e w' => e = .returned (.bool (allT G x ar)) ∧ Kp [bat] w w' ∧ (allT G x ar = true → Bk w'.heap bat [.int .i64 ((k + (row x).length : Nat) : Int)] 3)) := by
  intro f
  induction f with
  | zero => intro x r k ar w hf; have := tsize_pos x; omega
  | succ f ih =>
    intro x r k ar w hf hk ht hok hS hat har hbd
    obtain ⟨n, ks⟩ := x
    obtain ⟨hcnt, hokl⟩ := hok
    have hnd := ndB_of_ok hcnt
    have hcb := ndB_bd hnd
    obtain ⟨RES, hRES⟩ : ∃ r, allT G (.mk n ks) ar = r := ⟨_, rfl⟩
    rw [hRES]
    simp only [allT] at hRES
    have hrl : (row (.mk n ks)).length = 1 + (rows ks).length := by simp only [row, List.length_cons]; omega
    have hlt : k < t.length := by
      rcases Nat.lt_or_ge k t.length with h | h
      · exact h
      · rw [List.drop_eq_nil_of_le h] at ht; simp [row] at ht
    obtain ⟨n', hn, hd⟩ := drop_get hlt
    have e1 : n' = n ∧ t.drop (k + 1) = rows ks ++ r := by
      rw [hd] at ht
      simp only [row, List.cons_append, List.cons.injEq] at ht
      exact ht
    obtain ⟨rfl, ht1⟩ := e1
    have hl := hm.row.1
    have hsz : tsize (.mk n' ks) = 1 + tsizes ks := rfl
    obtain ⟨b, o, hta, i1, i2, i3, hcells⟩ := sl_nd hm.row hn
    refine ⟨⟨_, Tryd.func96, rfl, by decide⟩, ?_⟩
    refine calls_of (args := [_, _, _, _, _]) 34 [.tmp 6] τok Tryd.func96 rfl rfl rfl (Nat.le_of_ble_eq_true rfl) ?_
    have hct := hm.ct
    rw [hta] at hct
    refine ldC hS hct ?_
    refine ld (hat.cl rfl).cell ?_
    refine ix k rfl hlt ?_
    refine ldN [.int .i64 n'.op, .int .i64 n'.a, .int .i64 n'.b] rfl (fun j v hj => hS _ _ _ (hcells j v hj)) ?_
    refine new fun bn w1 hbn hN hsn hk1 => ?_
    refine stN hN rfl (by simp [Value.oneCell']) fun w2 hN hs2 hk2 => ?_
    have hN : Bk w2.heap bn [.int .i64 n'.op, .int .i64 n'.a, .int .i64 n'.b] 47 := hN
    have hk02 : Kp [] w w2 := hk1.newSt hbn hk2
    have hatl := hat.lt
    have hat2 := hat.kp hk02 (by simp)
    refine ld (hat2.cl rfl).cell ?_
    refine int64 (by omega) (by omega) ?_
    refine st hat2 (by simp) rfl fun w3 hat3 hs3 hk3 => ?_
    have hat3 : Bk w3.heap bat [.int .i64 ((k + 1 : Nat) : Int)] 3 := hat3
    have hk03 : Kp [bat] w w3 := (hk02.weak (by simp)).trans hk3 (fun x hx _ => hx)
    have hN3 := hN.kp hk3 (by simp; omega)
    have hSb : ∀ w', Kp [bat] w w' → Sub D w' := fun w' k' => hS.kp k' fun b o v hc => by simpa using hm.apart b o v hc
    refine ldC (hSb w3 hk03) hm.co ?_
    refine ldN [.int .i64 n'.op, .int .i64 n'.a, .int .i64 n'.b] rfl (fun j v hj => by rw [Nat.zero_add]; exact hN3.cl hj) ?_
    refine ev_call (hone n' ar w3 har (by omega) i2 ⟨_, hnd⟩ (hSb w3 hk03)) ?_
    rintro e w4 ⟨rfl, hk4⟩
    have hk04 := hk03.tr hk4
    refine br (fun g1 => ?_) (fun g1 => ?_)
    · have g1 : G n' ar = false := by simpa using g1
      rw [g1, Bool.false_and] at hRES
      subst hRES
      exact ⟨rfl, hk04, fun h => by cases h⟩
    have g1 : G n' ar = true := by simpa using g1
    rw [g1, Bool.true_and] at hRES
    have hN4 := hN3.kp hk4 (by simp)
    have hat4 := hat3.kp hk4 (by simp)
    refine ldN [.int .i64 n'.op, .int .i64 n'.a, .int .i64 n'.b] rfl (fun j v hj => by rw [Nat.zero_add]; exact hN4.cl hj) ?_
    refine ev_call (kidsB_ct n' i3 w4) ?_
    rintro e w5 ⟨rfl, hk5⟩
    have hk05 := hk04.tr hk5
    have e0 : (ndB n').getD (-1) = (ks.length : Int) := by rw [hnd]; rfl
    rw [e0]
    refine lp τok (σ := Nat × Nat) (fun q => [(0, .int .i64 ar), (1, .pointer (some ⟨bt, 0, none⟩)), (2, .pointer (some ⟨bat, 0, none⟩)), (3, .pointer (some ⟨bo, 0, none⟩)), (4, .pointer (some ⟨bf, 0, none⟩)), (7, .pointer (some ⟨bn, 0, none⟩)), (21, .int .i64 ks.length), (22, .int .i64 q.1)])
      (fun q w' => q.1 ≤ ks.length ∧ q.2 ≤ t.length ∧ t.drop q.2 = rows (ks.drop q.1) ++ r ∧ okL cntB nxB (ks.drop q.1) n' () q.1 ∧ q.2 + (rows (ks.drop q.1)).length = k + (row (.mk n' ks)).length ∧ Kp [bat] w w' ∧ Bk w'.heap bat [.int .i64 q.2] 3 ∧ Bk w'.heap bn [.int .i64 n'.op, .int .i64 n'.a, .int .i64 n'.b] 47 ∧ RES = allL G (ks.drop q.1) n' ar q.1) (fun q => ks.length - q.1) (0, k + 1) rfl
      ⟨rfl, rfl, rfl, rfl, rfl, rfl, rfl, rfl, trivial⟩ ⟨Nat.zero_le _, hlt, ht1, hokl, by rw [hrl, List.drop_zero]; omega, hk05, hat4.kp hk5 (by simp), hN4.kp hk5 (by simp), hRES.symm⟩ ?_
    clear hRES
    rintro ⟨j, a⟩ w6 ⟨hj, ha, hta', hok', hlen, hk06, hat6, hN6, hR⟩
    simp only at hj ha hta' hok' hlen hat6 hR
    refine br_dec (fun g2 => ?_) (fun g2 => ?_)
    · have hjl : j < ks.length := by omega
      obtain ⟨y, hy, hdy⟩ := drop_get hjl
      rw [hdy] at hta' hok' hlen hR
      simp only [rows, List.append_assoc, List.length_append] at hta' hlen
      obtain ⟨hoky, hok'⟩ := hok'
      simp only [allL] at hR
      have hys := tsizes_get hy
      have hbb := bndB_bd hnd j
      have hbnl := hN6.lt
      refine drawG τok (fun u => Kp [bat] w6 u) ?_
      refine readsG τok [0, 1, 2, 3] 4 #[true, true, true, true, false, false, false, false] rfl rfl (by kernel_rfl) (by kernel_rfl) (by kernel_rfl) (((Kp.refl [] w6).weak (by simp)).dr _) ?_
      refine ldQ (fun u hu => ((hSb w6 hk06) _ _ _ hm.cf).kp hu (by simpa using hm.apart _ _ _ hm.cf)) ?_
      have hbne : bn ≠ bat := by omega
      refine runLdN [.int .i64 n'.op, .int .i64 n'.a, .int .i64 n'.b] rfl (fun u hu j v hj => by rw [Nat.zero_add]; exact (hN6.kp hu (by simpa using hbne)).cl hj) ?_
      refine nextG τok 4 3 #[true, true, true, true, true, false, false, false] rfl rfl rfl (by kernel_rfl) ?_
      refine ev_call (binders_ct n' j _) ?_
      rintro e w7 ⟨rfl, hk7⟩
      have hk7 : Kp [] w6 w7 := hk7.rd
      refine ⟨.inl (hk7.weak (by simp)), ?_⟩
      refine nextG τok 5 2 #[true, true, true, true, true, true, false, false] rfl rfl rfl (by kernel_rfl) ?_
      refine int64 (by omega) (by omega) ?_
      refine ⟨.inl (hk7.weak (by simp)), ?_⟩
      refine nextG τok 6 1 #[true, true, true, true, true, true, true, false] rfl rfl rfl (by kernel_rfl) ?_
      refine ev_call (ih y (rows (ks.drop (j + 1)) ++ r) a (ar + bndB n' j) w7 (by omega) ha hta' (by simpa [nxB] using hoky) ((hSb w6 hk06).tr hk7) (hat6.kp hk7 (by simp)) (by omega) (by omega)) ?_
      rintro e w8 ⟨rfl, hk8, hpost⟩
      have hk68 : Kp [bat] w6 w8 := (hk7.weak (by simp)).trans hk8 (fun x hx _ => hx)
      refine ⟨.inl hk68, ?_⟩
      refine nextG τok 7 0 #[true, true, true, true, true, true, true, true] rfl rfl rfl (by kernel_rfl) ?_
      refine ⟨.inl hk68, ?_⟩
      refine doneG (by kernel_rfl) ?_
      have hk08 : Kp [bat] w w8 := hk06.trans hk68 (fun x hx _ => hx)
      refine br (fun g3 => ?_) (fun g3 => ?_)
      · have g3 : allT G y (ar + bndB n' j) = false := by simpa using g3
        rw [g3, Bool.false_and] at hR
        subst hR
        exact ⟨rfl, hk08, fun h => by cases h⟩
      · have g3 : allT G y (ar + bndB n' j) = true := by simpa using g3
        rw [g3, Bool.true_and] at hR
        have hyl := row_pos y
        have hla : a + (row y).length ≤ t.length := by
          have := congrArg List.length hta'
          simp only [List.length_drop, List.length_append] at this
          omega
        refine int64 (by (try simp only); omega) (by (try simp only); omega) ?_
        refine ⟨(j + 1, a + (row y).length), by simp only; omega, rfl, ⟨rfl, rfl, rfl, rfl, rfl, rfl, rfl, rfl, trivial⟩, hjl, hla, ?_, hok', by simp only; omega, hk08, hpost g3, hN6.kp hk68 (by simpa using hbne), hR⟩
        simp only
        rw [← List.drop_drop, hta', List.drop_left]
    · have hjn : j = ks.length := by omega
      subst hjn
      rw [List.drop_length] at hlen hR
      have hR : RES = true := hR
      subst hR
      refine ⟨rfl, hk06, fun _ => ?_⟩
      have : a = k + (row (.mk n' ks)).length := by simpa [rows] using hlen
      rw [← this]
      exact hat6
end Go.Proofs.YtjpdkcejkogciaaDoor

/-
  Package bare: walk, Below, there.
-/
set_option linter.unusedSimpArgs false
set_option linter.unusedVariables false
namespace Cd
open Go.Wx
mutual
theorem ok_mem : ∀ (x : Tr), okT cntB nxB x () → ∀ n ∈ row x, ∃ c, ndB n = some c
  | .mk m ks, ⟨h1, h2⟩, n, hn => by
    simp only [row, List.mem_cons] at hn
    rcases hn with rfl | hn
    · exact ⟨_, ndB_of_ok h1⟩
    · exact okL_mem ks m 0 h2 n hn
theorem okL_mem : ∀ (ks : List Tr) (m : Nd) (k : Nat), okL cntB nxB ks m () k → ∀ n ∈ rows ks, ∃ c, ndB n = some c
  | [], m, k, _, n, hn => by simp [rows] at hn
  | x :: r, m, k, ⟨h1, h2⟩, n, hn => by
    simp only [rows, List.mem_append] at hn
    rcases hn with hn | hn
    · exact ok_mem x h1 n hn
    · exact okL_mem r m (k + 1) h2 n hn
end
theorem ndB_a {n : Nd} {c : Int} (h : ndB n = some c) (h26 : n.op = 26 ∨ n.op = 27 ∨ n.op = 28) : 0 ≤ n.a ∧ n.a ≤ 63 ∧ 0 ≤ n.b := by
  unfold ndB at h
  rcases h26 with o | o | o <;> simp [o, inM] at h <;> omega
theorem treeB_some {t : List Nd} {x : Tr} (h : treeB t = some x) : t = row x ∧ okT cntB nxB x () := treeOf_some h
def belowB (n : Int) (t : List Nd) : Bool := decide (shapeB t = 0) && match treeB t with
  | some x => allT (freeB (max n 0)) x 0
  | none => false
theorem shapeB_zero {t : List Nd} : shapeB t = 0 ↔ t.length ≤ 4096 ∧ ∃ x, treeB t = some x := by
  unfold shapeB
  split
  · constructor
    · intro h; cases h
    · intro h; omega
  · cases treeB t with
    | none => simp
    | some x => simp; omega
theorem thereB_eq (p : Brd) (known : Int) (t : List Nd) : thereB p known t = (belowB 0 t && t.all (nameB p known)) := by
  unfold thereB belowB
  cases hq : treeB t with
  | none => simp
  | some x =>
    by_cases h : t.length ≤ 4096
    · have : shapeB t = 0 := shapeB_zero.2 ⟨h, x, hq⟩
      rw [decide_eq_true h, decide_eq_true this]
      simp
    · have : ¬ shapeB t = 0 := fun e => h (shapeB_zero.1 e).1
      rw [decide_eq_false h, decide_eq_false this]
      simp
end Cd
namespace Go.Proofs.YtjpdkcejkogciaaDoor
open Go.Wx Cd

theorem walk_ct {C : Mem} {w : World} (hS : Sub C w) {t : List Nd} {ta : Option Addr} {tc : Nat} (ht : Sl rNd C ta t) {x : Tr} (hx : t = row x) (hok : okT cntB nxB x ()) (hsz : t.length ≤ 1048576) {g : FuncId} {caps : Array Value} (G : Nd → Int → Bool)
    (hone : ∀ (n : Nd) (ar : Int) (w : World), 0 ≤ ar → ar ≤ 1099511627776 → I64 n.a → (∃ c, ndB n = some c) → Sub C w → CallOk Tryd.prog g ∧ Calls Tryd.prog g (#[] ++ [.agg #[.int .i64 n.op, .int .i64 n.a, .int .i64 n.b], .int .i64 ar].toArray ++ caps) w (fun e w' => e = .returned (.bool (G n ar)) ∧ Kp [] w w')) :
    CallOk Tryd.prog 83 ∧ Calls Tryd.prog 83 #[.slice ta t.length tc, .func (.func g) #[] caps] w (fun e w' => e = .returned (.bool (allT G x 0)) ∧ Kp [] w w') := by
  refine ⟨⟨_, Tryd.func83, rfl, by decide⟩, ?_⟩
  refine calls_of (args := [_, _]) 10 [.tmp 4] τok Tryd.func83 rfl rfl rfl (Nat.le_of_ble_eq_true rfl) ?_
  refine new fun bt w1 hbt hBt hs1 hk1 => ?_
  refine new fun bo w2 hbo hBo hs2 hk2 => ?_
  refine new fun bat w3 hbat hBat hs3 hk3 => ?_
  refine st hBat (by decide) rfl fun w4 hBat hs4 hk4 => ?_
  refine new fun bf w5 hbf hBf hs5 hk5 => ?_
  refine st hBf (by decide) rfl fun w6 hBf hs6 hk6 => ?_
  have hsz1 := hk1.size
  have hsz2 := hk2.size
  have k34 : Kp [] w2 w4 := hk3.newSt hbat hk4
  have k56 : Kp [] w4 w6 := hk5.newSt hbf hk6
  have hS6 := (((hS.tr hk1).tr hk2).tr k34).tr k56
  have hBt : Bk w6.heap bt [.slice ta t.length tc] 30 := (((hBt.kp hk2 (by simp)).kp k34 (by simp)).kp k56 (by simp))
  have hBo : Bk w6.heap bo [.func (.func g) #[] caps] 144 := ((hBo.kp k34 (by simp)).kp k56 (by simp))
  have hBat : Bk w6.heap bat [.int .i64 ((0 : Nat) : Int)] 3 := (show Bk w4.heap bat [.int .i64 ((0 : Nat) : Int)] 3 from hBat).kp k56 (by simp)
  have hBf : Bk w6.heap bf [.func (.func 96) #[] #[.pointer (some ⟨bt, 0, none⟩), .pointer (some ⟨bat, 0, none⟩), .pointer (some ⟨bo, 0, none⟩), .pointer (some ⟨bf, 0, none⟩)]] 123 := hBf
  have hk06 : Kp [] w w6 := ((hk1.tr hk2).tr k34).tr k56
  obtain ⟨D, hD⟩ : ∃ D, D = addB (addB (addB C bt [.slice ta t.length tc]) bo [.func (.func g) #[] caps]) bf [.func (.func 96) #[] #[.pointer (some ⟨bt, 0, none⟩), .pointer (some ⟨bat, 0, none⟩), .pointer (some ⟨bo, 0, none⟩), .pointer (some ⟨bf, 0, none⟩)]] := ⟨_, rfl⟩
  have hDS : Sub D w6 := by rw [hD]; exact addB_sub (addB_sub (addB_sub hS6 hBt) hBo) hBf
  have hCD : ∀ b o v, C b o v → D b o v := by rw [hD]; exact fun b o v h => addB_l _ _ _ (addB_l _ _ _ (addB_l _ _ _ h))
  have hm : WkM D t ta tc bt bat bo bf g caps := by
    refine ⟨ht.mono hCD, by rw [hD]; exact addB_l _ _ _ (addB_l _ _ _ (addB_r rfl)), by rw [hD]; exact addB_l _ _ _ (addB_r rfl), by rw [hD]; exact addB_r rfl, ?_⟩
    intro b o v hc
    rw [hD] at hc
    rcases hc with ((hc | hc) | hc) | hc
    · have := hS.lt _ _ _ hc; omega
    · omega
    · omega
    · have := hk5.size; have := hk3.size; omega
  refine ld (hBf.cl rfl).cell ?_
  have hrl := row_len x
  refine ev_call (walk1_ct hm G (fun n ar w' h1 h2 h3 h5 h4 => hone n ar w' h1 h2 h3 h5 (fun b o v hc => h4 b o v (hCD b o v hc))) (tsize x) x [] 0 0 w6 (Nat.le_refl _) (Nat.zero_le _) (by rw [List.drop_zero, List.append_nil]; exact hx) hok hDS hBat (by omega) (by rw [hx] at hsz; omega)) ?_
  rintro e w7 ⟨rfl, hk7, _⟩
  refine ⟨rfl, hk06.trans hk7 fun y hy hl => ?_⟩
  simp at hy
  omega

theorem below1_ct {C : Mem} {b3 : Nat} {z : Int} (hc : C b3 0 (.int .i64 z)) (n : Nd) (ar : Int) (w : World) (h0 : 0 ≤ ar) (h1 : ar ≤ 1099511627776) (ha : I64 n.a) (hS : Sub C w) (hnd : ∃ c, ndB n = some c) :
    CallOk Tryd.prog 84 ∧ Calls Tryd.prog 84 #[.agg #[.int .i64 n.op, .int .i64 n.a, .int .i64 n.b], .int .i64 ar, .pointer (some ⟨b3, 0, none⟩)] w (fun e w' => e = .returned (.bool (freeB (max z 0) n ar)) ∧ Kp [] w w') := by
  refine ⟨⟨_, Tryd.func84, rfl, by decide⟩, ?_⟩
  refine calls_of (args := [_, _, _]) 18 [.tmp 5] τok Tryd.func84 rfl rfl rfl (Nat.le_of_ble_eq_true rfl) ?_
  refine new fun bn w1 hbn hN hsn hk1 => ?_
  have hN : Bk w1.heap bn [.int .i64 n.op, .int .i64 n.a, .int .i64 n.b] 47 := hN
  refine ld (hN.cl rfl).cell ?_
  refine br_dec (fun o => ?_) (fun o => ?_)
  · refine ⟨?_, hk1⟩
    simp only [one, freeB]
    rw [decide_eq_true o, Bool.true_or]
  · have o' : n.op = 21 := by simpa using o
    have : 0 ≤ n.a := by
      obtain ⟨c, hc⟩ := hnd
      unfold ndB at hc
      simp [o', inM] at hc
      omega
    refine ld (hN.cl rfl).cell ?_
    refine int64 (by have := ha.1; omega) (by have := ha.2; omega) ?_
    refine ldC (hS.tr hk1) hc ?_
    refine max64 ?_
    refine ⟨?_, hk1⟩
    simp only [one, freeB]
    rw [decide_eq_false o, Bool.false_or]

theorem belowB_ct {C : Mem} {w : World} (hS : Sub C w) {t : List Nd} {ta : Option Addr} {tc : Nat} (ht : Sl rNd C ta t) (z : Int) :
    CallOk Tryd.prog 59 ∧ Calls Tryd.prog 59 #[.slice ta t.length tc, .int .i64 z] w (fun e w' => e = .returned (.bool (belowB z t)) ∧ Kp [] w w') := by
  obtain ⟨RES, hRES⟩ : ∃ r, belowB z t = r := ⟨_, rfl⟩
  rw [hRES]
  refine ⟨⟨_, Tryd.func59, rfl, by decide⟩, ?_⟩
  refine calls_of (args := [_, _]) 13 [.tmp 4] τok Tryd.func59 rfl rfl rfl (Nat.le_of_ble_eq_true rfl) ?_
  refine new fun b3 w1 hb3 hB3 hs1 hk1 => ?_
  have hB3 : Bk w1.heap b3 [.int .i64 z] 3 := hB3
  have hS1 := hS.tr hk1
  refine ev_call (shapeB_ct hS1 ht) ?_
  rintro e w2 ⟨rfl, hk2⟩
  have hk12 := hk1.tr hk2
  unfold belowB at hRES
  refine br_dec (fun g => ?_) (fun g => ?_)
  · rw [decide_eq_true g, Bool.true_and] at hRES
    obtain ⟨hl, x, hx⟩ := shapeB_zero.1 g
    rw [hx] at hRES
    have hRES : allT (freeB (max z 0)) x 0 = RES := hRES
    obtain ⟨hrow, hok⟩ := treeB_some hx
    obtain ⟨D, hD⟩ : ∃ D, D = addB C b3 [.int .i64 z] := ⟨_, rfl⟩
    have hDS : Sub D w2 := by rw [hD]; exact addB_sub (hS1.tr hk2) (hB3.kp hk2 (by simp))
    have hCD : ∀ b o v, C b o v → D b o v := by rw [hD]; exact addB_l
    refine ev_call (walk_ct hDS (ht.mono hCD) hrow hok (by omega) (caps := #[.pointer (some ⟨b3, 0, none⟩)]) (freeB (max z 0)) fun n ar w' h1 h2 h3 h5 h4 => below1_ct (by rw [hD]; exact addB_r rfl) n ar w' h1 h2 h3 h4 h5) ?_
    rintro e w3 ⟨rfl, hk3⟩
    exact ⟨by rw [← hRES]; rfl, hk12.tr hk3⟩
  · rw [decide_eq_false g, Bool.false_and] at hRES
    exact ⟨by rw [← hRES]; rfl, hk12⟩

/-- the cells of a program without types -/
def brdCells (p : Brd) (a1 a2 a3 a4 : Option Addr) (c1 c2 c3 c4 : Nat) : List Value := [.slice a1 p.bodies.length c1, .slice a2 p.shapes.length c2, .slice a3 p.main.length c3, .int .i64 p.nat, .slice a4 p.prims.length c4]

end Go.Proofs.YtjpdkcejkogciaaDoor

