/-
  Code, in plain Lean: what is known of code that may be: its numbers are small.
-/
import Derived.Test.YtjogpbiilokldaaCdL
set_option linter.unusedVariables false
namespace Cd
open Go Go.Wx

structure InsOk (n : Ins) : Prop where
  op : 1 ≤ n.op ∧ n.op ≤ 14
  a : 0 ≤ n.a ∧ n.a ≤ 1048576
  b : 0 ≤ n.b ∧ n.b ≤ 1048576
  to : ∀ t ∈ n.to, 0 ≤ t ∧ t ≤ 1048576
  len : n.to.length ≤ 32

structure ShpOk (s : Shp) : Prop where
  params : 0 ≤ s.params ∧ s.params ≤ 16
  kept : s.kept.length ≤ 16
  each : ∀ k ∈ s.kept, k.length ≤ 16

structure Small (c : Cod) : Prop where
  shapes : c.shapes.length ≤ 64
  bodies : c.bodies.length ≤ 64
  funs : c.funs.length ≤ 4096
  caps : ∀ f ∈ c.funs, 0 ≤ f.caps ∧ f.caps ≤ 255
  len : c.bodies.length = c.shapes.length
  shp : ∀ s ∈ c.shapes, ShpOk s

/-- heights are at most the greatest one -/
def Hm (s : List Int × Int) : Prop := ∀ x ∈ s.1, x ≤ s.2
theorem goesM_hm {len : Nat} {i : Int} {t : Int × Int} {s s' : List Int × Int} (h : goesM len i t s = some s') (hs : Hm s) : Hm s' ∧ s.2 ≤ s'.2 ∧ i < t.1 ∧ t.1 < len := by
  unfold goesM at h
  split at h
  · cases h
  rename_i hin
  split at h
  · obtain rfl := Option.some.inj h
    refine ⟨fun x hx => ?_, by simp only; omega, by omega, by omega⟩
    rcases List.mem_or_eq_of_mem_set hx with hx | rfl
    · have := hs x hx; simp only; omega
    · simp only; omega
  split at h
  · obtain rfl := Option.some.inj h
    exact ⟨fun x hx => by have := hs x hx; simp only; omega, by simp only; omega, by omega, by omega⟩
  · cases h
theorem goM_hm {len : Nat} {i : Int} : ∀ {l : List (Int × Int)} {s s' : List Int × Int}, goM len i l s = some s' → Hm s → Hm s' ∧ s.2 ≤ s'.2 ∧ ∀ t ∈ l, i < t.1 ∧ t.1 < len
  | [], s, s', h, hs => by obtain rfl := Option.some.inj h; exact ⟨hs, Int.le_refl _, by simp⟩
  | t :: r, s, s', h, hs => by
    simp only [goM] at h
    cases h1 : goesM len i t s with
    | none => rw [h1] at h; cases h
    | some s1 =>
      rw [h1] at h
      obtain ⟨a1, a2, a3⟩ := goesM_hm h1 hs
      obtain ⟨b1, b2, b3⟩ := goM_hm (l := r) h a1
      refine ⟨b1, by omega, fun u hu => ?_⟩
      rcases List.mem_cons.1 hu with rfl | hu
      · exact a3
      · exact b3 u hu

theorem armsL_to {len : Nat} {i h : Int} (hi : 0 ≤ i) (hlen : len ≤ 1048576) : ∀ {ks : List (List Bool)} {to : List Int} {l : List (Int × Int)}, armsL ks to h = some l → to.length = 2 * ks.length → (∀ k ∈ ks, k.length ≤ 16) → (∀ t ∈ l, i < t.1 ∧ t.1 < len) → ∀ t ∈ to, 0 ≤ t ∧ t ≤ 1048576
  | [], to, l, e, hl, _, _, t, ht => by
    have : to = [] := List.length_eq_zero_iff.1 (by simpa using hl)
    subst this
    simp at ht
  | k :: r, [], l, e, hl, _, _, t, ht => by simp at ht
  | k :: r, [_], l, e, hl, _, _, t, ht => by simp at hl; omega
  | k :: r, x :: m :: to, l, e, hl, hk, hb, t, ht => by
    simp only [armsL] at e
    split at e
    · rename_i hm
      cases h1 : armsL r to h with
      | none => rw [h1] at e; cases e
      | some l' =>
        rw [h1] at e
        obtain rfl := Option.some.inj e
        have hk0 := hk k (by simp)
        have hb0 := hb (x, h - 1 + k.length) (by simp)
        simp only at hb0
        rcases List.mem_cons.1 ht with rfl | ht
        · omega
        rcases List.mem_cons.1 ht with rfl | ht
        · omega
        · exact armsL_to hi hlen h1 (by simp at hl; omega) (fun k hk' => hk k (by simp [hk'])) (fun u hu => hb u (by simp [hu])) t ht
    · cases e

theorem famM_in {c : Cod} {e : Int} (h : famM c e = true) : 0 ≤ e ∧ e ≤ c.shapes.length - 1 := by
  simp [famM, inM] at h
  exact h.1
theorem kept_small {c : Cod} (hc : Small c) (e : Int) : (keptM c e).length ≤ 16 ∧ ∀ k ∈ keptM c e, k.length ≤ 16 := by
  unfold keptM
  cases hs : c.shapes[e.toNat]? with
  | none => simp
  | some s =>
    have := hc.shp s (List.mem_of_getElem? hs)
    exact ⟨this.kept, this.each⟩
theorem zero_ab {n : Ins} (h : n.zero = true) : n.a = 0 ∧ n.b = 0 := by simpa [Ins.zero] using h

theorem plainM_ok {c : Cod} (hc : Small c) {n : Ins} {h fl p : Int} (hh : 0 ≤ h ∧ h ≤ 4096) (hf : 0 ≤ fl) (e : plainM c n h = some p) (hp : p ≤ h - fl) : (1 ≤ n.op ∧ n.op ≤ 14) ∧ (0 ≤ n.a ∧ n.a ≤ 1048576) ∧ (0 ≤ n.b ∧ n.b ≤ 1048576) := by
  have hfu := hc.funs
  have hbo := hc.bodies
  have hsh := hc.shapes
  unfold plainM at e
  by_cases h1 : n.op = 1
  · rw [if_pos h1] at e
    split at e
    · rename_i hz; have := zero_ab hz; omega
    · cases e
  rw [if_neg h1] at e
  by_cases h2 : n.op = 2
  · rw [if_pos h2] at e
    split at e
    · rename_i hz; simp [inM] at hz; omega
    · cases e
  rw [if_neg h2] at e
  by_cases h3 : n.op = 3
  · rw [if_pos h3] at e
    split at e
    · rename_i hz; simp [inM] at hz; omega
    · cases e
  rw [if_neg h3] at e
  by_cases h4 : n.op = 4
  · rw [if_pos h4] at e
    split at e
    · rename_i hz
      simp only [Bool.and_eq_true, decide_eq_true_eq] at hz
      obtain ⟨h5, h6⟩ := hz
      simp [inM] at h5
      cases hf : c.funs[n.a.toNat]? with
      | none => rw [hf] at h6; simp at h6
      | some f =>
        rw [hf] at h6
        have := hc.caps f (List.mem_of_getElem? hf)
        simp at h6
        omega
    · cases e
  rw [if_neg h4] at e
  by_cases h5 : n.op = 5
  · rw [if_pos h5] at e
    split at e
    · rename_i hz; have := zero_ab hz; omega
    · cases e
  rw [if_neg h5] at e
  by_cases h7 : n.op = 7
  · rw [if_pos h7] at e
    split at e
    · rename_i hz
      simp only [Bool.and_eq_true, decide_eq_true_eq] at hz
      obtain ⟨⟨h8, _⟩, h9⟩ := hz
      simp [inM] at h8
      omega
    · cases e
  rw [if_neg h7] at e
  by_cases h8 : n.op = 8
  · rw [if_pos h8] at e
    split at e
    · rename_i hz
      simp only [ctorM, Bool.and_eq_true, decide_eq_true_eq] at hz
      obtain ⟨h9, h10, h11⟩ := hz
      have := famM_in h10
      split at h11
      · rename_i k hk
        have h12 := (kept_small hc (n.a / 16)).2 k (List.mem_of_getElem? hk)
        simp at h11
        omega
      · cases h11
    · cases e
  rw [if_neg h8] at e
  by_cases h10 : n.op = 10
  · rw [if_pos h10] at e
    split at e
    · rename_i hz; have := zero_ab hz; omega
    · cases e
  rw [if_neg h10] at e
  by_cases h12 : n.op = 12
  · rw [if_pos h12] at e
    split at e
    · rename_i hz; simp [inM] at hz; omega
    · cases e
  rw [if_neg h12] at e
  by_cases h14 : n.op = 14
  · rw [if_pos h14] at e
    split at e
    · rename_i hz
      simp only [Bool.and_eq_true, decide_eq_true_eq] at hz
      have e := Option.some.inj e
      omega
    · cases e
  rw [if_neg h14] at e
  cases e

theorem nextM_ok {c : Cod} (hc : Small c) {len i : Nat} {n : Ins} {h fl : Int} {s s' : List Int × Int} {l : List (Int × Int)} (hh : fl ≤ h ∧ h ≤ 4096) (hf : 0 ≤ fl) (hlen : len ≤ 1048576) (e : nextM c i n h fl = some l) (hg : goM len i l s = some s') (hs : Hm s) : InsOk n := by
  have hgo := (goM_hm hg hs).2.2
  unfold nextM at e
  by_cases h6 : n.op = 6
  · rw [if_pos h6] at e
    split at e
    · rename_i hz
      simp only [Bool.and_eq_true, decide_eq_true_eq] at hz
      have h0 := zero_ab hz.1.1
      have ht : n.to = [] := List.length_eq_zero_iff.1 hz.1.2
      exact ⟨by omega, by omega, by omega, by rw [ht]; simp, by rw [ht]; simp⟩
    · cases e
  rw [if_neg h6] at e
  by_cases h13 : n.op = 13
  · rw [if_pos h13] at e
    split at e
    · rename_i hz
      simp only [Bool.and_eq_true, decide_eq_true_eq] at hz
      have h0 := zero_ab hz.1
      obtain rfl := Option.some.inj e
      have hg0 := hgo (n.to.getD 0 0, h) (by simp)
      simp only at hg0
      match ht : n.to, hz.2 with
      | [t], _ =>
        rw [ht] at hg0
        simp at hg0
        exact ⟨by omega, by omega, by omega, by rw [ht]; simp; omega, by rw [ht]; simp⟩
    · cases e
  rw [if_neg h13] at e
  by_cases h11 : n.op = 11
  · rw [if_pos h11] at e
    split at e
    · rename_i hz
      simp only [Bool.and_eq_true, decide_eq_true_eq] at hz
      have h0 := zero_ab hz.1.1
      obtain rfl := Option.some.inj e
      have hg0 := hgo (n.to.getD 0 0, h - 1) (by simp)
      simp only at hg0
      match ht : n.to, hz.1.2 with
      | [t], _ =>
        rw [ht] at hg0
        simp at hg0
        exact ⟨by omega, by omega, by omega, by rw [ht]; simp; omega, by rw [ht]; simp⟩
    · cases e
  rw [if_neg h11] at e
  by_cases h9 : n.op = 9
  · rw [if_pos h9] at e
    split at e
    · unfold armsM at e
      split at e
      · rename_i hz
        simp only [Bool.and_eq_true, decide_eq_true_eq] at hz
        obtain ⟨⟨⟨⟨hfam, _⟩, hb1⟩, hb2⟩, hb3⟩ := hz
        have hin := famM_in hfam
        have hks := kept_small hc n.a
        have hsh := hc.shapes
        exact ⟨by omega, by omega, by omega, armsL_to (by omega) hlen e (by omega) hks.2 hgo, by omega⟩
      · cases e
    · cases e
  rw [if_neg h9] at e
  cases hp : plainM c n h with
  | none => rw [hp] at e; cases e
  | some p =>
    rw [hp] at e
    simp only at e
    split at e
    · rename_i hz
      have ht : n.to = [] := List.length_eq_zero_iff.1 hz.1
      obtain ⟨a1, a2, a3⟩ := plainM_ok hc (by omega) hf hp hz.2
      exact ⟨a1, a2, a3, by rw [ht]; simp, by rw [ht]; simp⟩
    · cases e

theorem blkM_ok {c : Cod} (hc : Small c) (hco : CodOk c) {len : Nat} {fl : Int} (hf : 0 ≤ fl) (hlen : len ≤ 1048576) : ∀ {code : List Ins} {i : Nat} {s : List Int × Int} {r : Int}, i + code.length = len → blkM c len fl i code s = some r → s.1.length = len → Hm s → (∃ B, Hb fl B s) →
    s.2 ≤ r ∧ (r ≤ 4096 → ∀ n ∈ code, InsOk n)
  | [], i, s, r, _, h, _, _, _ => by obtain rfl := Option.some.inj h; exact ⟨Int.le_refl _, by simp⟩
  | n :: code, i, s, r, hi, h, hsl, hs, ⟨B, hB⟩ => by
    simp only [blkM] at h
    split at h
    · cases h
    rename_i hm
    cases ho : oneM c len fl i n s with
    | none => rw [ho] at h; cases h
    | some s' =>
      rw [ho] at h
      have h : blkM c len fl (i + 1) code s' = some r := h
      unfold oneM at ho
      cases hn : nextM c i n (s.1.getD i 0) fl with
      | none => rw [hn] at ho; cases ho
      | some l =>
        rw [hn] at ho
        have ho : goM len i l s = some s' := ho
        have hil : i < s.1.length := by simp at hi; omega
        have hmem := getD_mem0 hil
        obtain ⟨a1, a2, a3⟩ := goM_hm ho hs
        have hge : fl ≤ s.1.getD i 0 := by
          rcases hB.1 _ hmem with h | h
          · exact absurd h hm
          · exact h.1
        have hbd := nextM_bd hco hge hf hn
        have hle := hs _ hmem
        have hB' := goM_hb (B := max B (s.1.getD i 0 + 1099511627776)) ho (hB.mono (by omega)) (fun t ht => by have := hbd t ht; omega)
        obtain ⟨b1, b2⟩ := blkM_ok hc hco hf hlen (by simp at hi; omega) h (by rw [hB'.2]; exact hsl) a1 ⟨_, hB'.1⟩
        refine ⟨by omega, fun hr x hx => ?_⟩
        rcases List.mem_cons.1 hx with rfl | hx
        · exact nextM_ok hc ⟨hge, by omega⟩ hf hlen hn ho hs
        · exact b2 hr x hx

theorem blockM_ok {c : Cod} (hc : Small c) (hco : CodOk c) {fl : Int} (hf : 0 ≤ fl) {code : List Ins} (hlen : code.length ≤ 1048576) {r : Int} (h : blockM c code fl = some r) (hr : r ≤ 4096) : ∀ n ∈ code, InsOk n := by
  unfold blockM at h
  split at h
  · cases h
  rename_i h0
  refine (blkM_ok hc hco hf hlen (by omega) h (by simp; omega) (fun x hx => ?_) ⟨fl, fun x hx => ?_, by simp, by simp⟩).2 hr
  · simp at hx
    rcases hx with rfl | ⟨_, rfl⟩ <;> simp only <;> omega
  · simp at hx
    rcases hx with rfl | ⟨_, rfl⟩
    · exact .inr ⟨Int.le_refl _, Int.le_refl _⟩
    · exact .inl rfl

/-! ### all blocks -/
theorem stepB_le {c : Cod} {s : Bool × Int} {code : List Ins} {fl : Int} : s.2 ≤ (stepB c s code fl).2 ∧ ((stepB c s code fl).1 = true → s.1 = true ∧ ∃ r, blockM c code fl = some r ∧ r ≤ (stepB c s code fl).2) := by
  unfold stepB
  refine ⟨by simp only; omega, fun h => ?_⟩
  simp only [Bool.and_eq_true] at h
  refine ⟨h.1, ?_⟩
  cases hb : blockM c code fl with
  | none => rw [hb] at h; simp at h
  | some r => exact ⟨r, rfl, by simp only [Option.getD_some]; omega⟩

theorem foldF {c : Cod} : ∀ (l : List Cd.Fn) (s : Bool × Int), (l.foldl (stepF c) s).1 = true → s.1 = true ∧ s.2 ≤ (l.foldl (stepF c) s).2 ∧ ∀ f ∈ l, ∃ r, blockM c f.code (f.caps + 1) = some r ∧ r ≤ (l.foldl (stepF c) s).2
  | [], s, h => ⟨h, Int.le_refl _, by simp⟩
  | f :: l, s, h => by
    rw [List.foldl_cons] at h ⊢
    obtain ⟨h1, h2, h3⟩ := foldF l (stepF c s f) h
    obtain ⟨h4, h5⟩ := stepB_le (c := c) (s := s) (code := f.code) (fl := f.caps + 1)
    obtain ⟨h6, r, h7, h8⟩ := h5 h1
    have h2' : (stepB c s f.code (f.caps + 1)).2 ≤ (l.foldl (stepF c) (stepF c s f)).2 := h2
    refine ⟨h6, by omega, fun g hg => ?_⟩
    rcases List.mem_cons.1 hg with rfl | hg
    · exact ⟨r, h7, by omega⟩
    · exact h3 g hg
theorem foldY {c : Cod} : ∀ (l : List (List Ins)) (s : Bool × Int), (l.foldl (stepY c) s).1 = true → s.1 = true ∧ s.2 ≤ (l.foldl (stepY c) s).2 ∧ ∀ b ∈ l, 0 < b.length → ∃ r, blockM c b 0 = some r ∧ r ≤ (l.foldl (stepY c) s).2
  | [], s, h => ⟨h, Int.le_refl _, by simp⟩
  | b :: l, s, h => by
    rw [List.foldl_cons] at h ⊢
    obtain ⟨h1, h2, h3⟩ := foldY l (stepY c s b) h
    by_cases hb : 0 < b.length
    · have e : stepY c s b = stepB c s b 0 := by unfold stepY; rw [if_pos hb]
      obtain ⟨h4, h5⟩ := stepB_le (c := c) (s := s) (code := b) (fl := 0)
      rw [e] at h1 h2 h3 ⊢
      obtain ⟨h6, r, h7, h8⟩ := h5 h1
      refine ⟨h6, by omega, fun g hg hgl => ?_⟩
      rcases List.mem_cons.1 hg with rfl | hg
      · exact ⟨r, h7, by omega⟩
      · exact h3 g hg hgl
    · have e : stepY c s b = s := by unfold stepY; rw [if_neg hb]
      rw [e] at h1 h2 h3 ⊢
      refine ⟨h1, h2, fun g hg hgl => ?_⟩
      rcases List.mem_cons.1 hg with rfl | hg
      · exact absurd hgl hb
      · exact h3 g hg hgl

/-- code that may be -/
structure Fine (c : Cod) : Prop where
  small : Small c
  nat : -1 ≤ c.nat ∧ c.nat ≤ 63
  size : sizeM c ≤ 16384
  main : ∀ n ∈ c.main, InsOk n
  mainLen : c.main.length ≠ 0
  funs : ∀ f ∈ c.funs, ∀ n ∈ f.code, InsOk n
  bodies : ∀ b ∈ c.bodies, ∀ n ∈ b, InsOk n

theorem shpOk_of {s : Shp} (h : shpOk s = true) : ShpOk s := by
  simp only [shpOk, Bool.and_eq_true, decide_eq_true_eq, Bool.not_eq_true', List.any_eq_false] at h
  obtain ⟨⟨⟨h1, h2⟩, h3⟩, h4⟩ := h
  exact ⟨⟨h1, h2⟩, h3, fun k hk => by have := h4 k hk; simpa using this⟩
theorem entsOk_all : ∀ (bs : List (List Nd)) (ss : List Shp), bs.length = ss.length → entsOk bs ss = true → ∀ s ∈ ss, ShpOk s
  | [], [], _, _, s, hs => by simp at hs
  | b :: bs, x :: ss, hl, h, s, hs => by
    simp only [entsOk, Bool.and_eq_true] at h
    rcases List.mem_cons.1 hs with rfl | hs
    · have := h.1
      simp only [entOk, Bool.and_eq_true] at this
      exact shpOk_of this.1
    · exact entsOk_all bs ss (by simpa using hl) h.2 s hs
  | [], _ :: _, hl, _, _, _ => by simp at hl
  | _ :: _, [], hl, _, _, _ => by simp at hl

theorem fine_of {c : Cod} (h : checkM c = 0) : Fine c := by
  unfold checkM at h
  split at h
  · cases h
  rename_i g1
  split at h
  · cases h
  rename_i g2
  split at h
  · cases h
  rename_i g3
  split at h
  · cases h
  rename_i g4
  split at h
  · cases h
  rename_i g5
  have hr : rightM (boxes c) c.shapes c.nat = true := by simpa using g3
  have hbl : (boxes c).length = c.bodies.length := by simp [boxes]
  simp only [rightM, Bool.and_eq_true, decide_eq_true_eq] at hr
  obtain ⟨hl, hents, hnat⟩ := hr
  have hshp := entsOk_all _ _ hl hents
  have hcaps : ∀ f ∈ c.funs, 0 ≤ f.caps ∧ f.caps ≤ 255 := fun f hf => by
    have g2 : c.funs.any (fun f => !inM f.caps 0 255) = false := by simpa using g2
    rw [List.any_eq_false] at g2
    simpa [inM] using g2 f hf
  have hsm : Small c := ⟨by omega, by omega, by omega, hcaps, by omega, hshp⟩
  have hco : CodOk c := ⟨hcaps, by omega, fun s hs k hk => by have := (hshp s hs).each k hk; omega⟩
  have hsz : sizeM c ≤ 16384 := by omega
  have hmost : (blocksM c).2 ≤ 4096 := by omega
  have hok : (blocksM c).1 = true := by simpa using g4
  obtain ⟨y1, y2, y3⟩ := foldY c.bodies _ hok
  obtain ⟨f1, f2, f3⟩ := foldF c.funs _ y1
  have hsum : c.main.length ≤ 16384 ∧ (∀ f ∈ c.funs, f.code.length ≤ 16384) ∧ ∀ b ∈ c.bodies, b.length ≤ 16384 := by
    unfold sizeM at hsz
    refine ⟨by omega, fun f hf => ?_, fun b hb => ?_⟩
    · have := le_sum (List.mem_map_of_mem (f := fun f : Cd.Fn => f.code.length) hf)
      omega
    · have := le_sum (List.mem_map_of_mem (f := List.length) hb)
      omega
  have hm : ∃ r, blockM c c.main 0 = some r ∧ r ≤ 4096 := by
    have f1 : (blockM c c.main 0).isSome = true := f1
    cases hb : blockM c c.main 0 with
    | none => rw [hb] at f1; simp at f1
    | some r =>
      rw [hb] at f2 y2
      simp only [Option.getD_some] at f2
      have e : blocksM c = c.bodies.foldl (stepY c) (c.funs.foldl (stepF c) ((blockM c c.main 0).isSome, (blockM c c.main 0).getD 0)) := rfl
      rw [e, hb] at hmost
      simp only [Option.getD_some] at hmost y2
      exact ⟨r, rfl, by omega⟩
  have e : blocksM c = c.bodies.foldl (stepY c) (c.funs.foldl (stepF c) ((blockM c c.main 0).isSome, (blockM c c.main 0).getD 0)) := rfl
  rw [e] at hmost
  refine ⟨hsm, ?_, hsz, ?_, ?_, fun f hf => ?_, fun b hb => ?_⟩
  · simp only [natOk, Bool.or_eq_true, Bool.and_eq_true, decide_eq_true_eq] at hnat
    rcases hnat with h | ⟨⟨⟨h1, h2⟩, _⟩, _⟩ <;> omega
  · obtain ⟨r, h1, h2⟩ := hm
    exact blockM_ok hsm hco (Int.le_refl _) (by omega) h1 h2
  · obtain ⟨r, h1, h2⟩ := hm
    intro h0
    unfold blockM at h1
    rw [if_pos h0] at h1
    cases h1
  · obtain ⟨r, h1, h2⟩ := f3 f hf
    have hc := hcaps f hf
    exact blockM_ok hsm hco (by omega) (by have := hsum.2.1 f hf; omega) h1 (by omega)
  · by_cases h0 : 0 < b.length
    · obtain ⟨r, h1, h2⟩ := y3 b hb h0
      exact blockM_ok hsm hco (Int.le_refl _) (by have := hsum.2.2 b hb; omega) h1 (by omega)
    · have : b = [] := List.length_eq_zero_iff.1 (by omega)
      subst this
      simp

/-! ### how many bytes -/
theorem flatMap_le {α : Type} {B : Nat} {f : α → List Nat} : ∀ (l : List α), (∀ x ∈ l, (f x).length ≤ B) → (l.flatMap f).length ≤ l.length * B
  | [], _ => by simp
  | x :: r, h => by
    have := flatMap_le r fun y hy => h y (by simp [hy])
    have := h x (by simp)
    simp only [List.flatMap_cons, List.length_append, List.length_cons, Nat.add_mul]
    omega
theorem numsB_le {xs : List Int} (h : ∀ x ∈ xs, x < 9223372036854775808) : (numsB xs).length ≤ xs.length * 10 :=
  flatMap_le xs fun x hx => formM_len10 (by have := h x hx; omega)
theorem insB_le {n : Ins} (h : InsOk n) : (insB n).length ≤ 360 := by
  have h1 : (numsB [n.op, n.a, n.b, n.to.length]).length ≤ 4 * 10 := numsB_le fun x hx => by
    have := h.op; have := h.a; have := h.b; have := h.len
    simp at hx
    omega
  have h2 : (numsB n.to).length ≤ n.to.length * 10 := numsB_le fun x hx => by have := h.to x hx; omega
  have := h.len
  unfold insB
  rw [List.length_append]
  omega
theorem blockB_le {b : List Ins} (h : ∀ n ∈ b, InsOk n) (hl : b.length ≤ 16384) : (blockB b).length ≤ 5898250 := by
  have h1 : (numsB [(b.length : Int)]).length ≤ 1 * 10 := numsB_le fun x hx => by simp at hx; omega
  have h2 := flatMap_le b (f := insB) (B := 360) fun n hn => insB_le (h n hn)
  unfold blockB
  rw [List.length_append]
  omega
theorem keptB_le {k : List Bool} (h : k.length ≤ 16) : (keptB k).length ≤ 170 := by
  have h1 : (numsB [(k.length : Int)]).length ≤ 1 * 10 := numsB_le fun x hx => by simp at hx; omega
  have h2 : (numsB (k.map bitI)).length ≤ (k.map bitI).length * 10 := numsB_le fun x hx => by
    simp only [List.mem_map] at hx
    obtain ⟨b, _, rfl⟩ := hx
    unfold bitI
    split <;> omega
  unfold keptB
  simp only [List.length_append, List.length_map] at h2 ⊢
  omega
theorem shpB_le {s : Shp} (h : ShpOk s) : (shpB s).length ≤ 2740 := by
  have h1 : (numsB [s.params, s.kept.length]).length ≤ 2 * 10 := numsB_le fun x hx => by have := h.params; have := h.kept; simp at hx; omega
  have h2 := flatMap_le s.kept (f := keptB) (B := 170) fun k hk => keptB_le (h.each k hk)
  have := h.kept
  unfold shpB
  rw [List.length_append]
  omega
theorem codB_le {c : Cod} (h : Fine c) : (codB c).length ≤ 549755813888 := by
  have hs := h.size
  have hsum : c.main.length ≤ 16384 ∧ (∀ f ∈ c.funs, f.code.length ≤ 16384) ∧ ∀ b ∈ c.bodies, b.length ≤ 16384 := by
    unfold sizeM at hs
    refine ⟨by omega, fun f hf => ?_, fun b hb => ?_⟩
    · have := le_sum (List.mem_map_of_mem (f := fun f : Cd.Fn => f.code.length) hf)
      omega
    · have := le_sum (List.mem_map_of_mem (f := List.length) hb)
      omega
  have sm := h.small
  have := sm.shapes
  have := sm.funs
  have := sm.bodies
  have h1 : (numsB [c.nat + 1, c.shapes.length]).length ≤ 2 * 10 := numsB_le fun x hx => by have := h.nat; simp at hx; omega
  have h2 := flatMap_le c.shapes (f := shpB) (B := 2740) fun s hs => shpB_le (sm.shp s hs)
  have h3 : (numsB [(c.funs.length : Int)]).length ≤ 1 * 10 := numsB_le fun x hx => by simp at hx; omega
  have h4 := flatMap_le c.funs (f := fnB) (B := 5898260) fun f hf => by
    have h5 : (numsB [f.caps]).length ≤ 1 * 10 := numsB_le fun x hx => by have := sm.caps f hf; simp at hx; omega
    have h6 := blockB_le (h.funs f hf) (hsum.2.1 f hf)
    unfold fnB
    rw [List.length_append]
    omega
  have h5 : (numsB [(c.bodies.length : Int)]).length ≤ 1 * 10 := numsB_le fun x hx => by simp at hx; omega
  have h6 := flatMap_le c.bodies (f := blockB) (B := 5898250) fun b hb => blockB_le (h.bodies b hb) (hsum.2.2 b hb)
  have h7 := blockB_le h.main hsum.1
  unfold codB
  simp only [List.length_append]
  omega
end Cd
