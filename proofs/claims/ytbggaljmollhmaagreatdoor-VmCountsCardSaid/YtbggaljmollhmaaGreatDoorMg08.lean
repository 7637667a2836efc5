/-
  Own texts put together: CdM, VmA, NtA.
-/
import Derived.Test.YtbggaljmollhmaaGreatDoorMg07
/-
  Code, in plain Lean: what is known of code that may be: its numbers are small.
-/
set_option linter.unusedVariables false
namespace Cd
open Go Go.Wx

structure InsOk (n : Ins) : Prop where
  op : 1 ≤ n.op ∧ n.op ≤ 14
  a : 0 ≤ n.a ∧ n.a ≤ 1048576
  b : 0 ≤ n.b ∧ n.b ≤ 1048576
  to : ∀ t ∈ n.to, 0 ≤ t ∧ t ≤ 1048576
  len : n.to.length ≤ 32

structure ShpOk (s : Shp) : Prop where
  params : 0 ≤ s.params ∧ s.params ≤ 16
  kept : s.kept.length ≤ 16
  each : ∀ k ∈ s.kept, k.length ≤ 16

structure Small (c : Cod) : Prop where
  shapes : c.shapes.length ≤ 64
  bodies : c.bodies.length ≤ 64
  funs : c.funs.length ≤ 4096
  caps : ∀ f ∈ c.funs, 0 ≤ f.caps ∧ f.caps ≤ 255
  len : c.bodies.length = c.shapes.length
  shp : ∀ s ∈ c.shapes, ShpOk s

/-- heights are at most the greatest one -/
def Hm (s : List Int × Int) : Prop := ∀ x ∈ s.1, x ≤ s.2
theorem goesM_hm {len : Nat} {i : Int} {t : Int × Int} {s s' : List Int × Int} (h : goesM len i t s = some s') (hs : Hm s) : Hm s' ∧ s.2 ≤ s'.2 ∧ i < t.1 ∧ t.1 < len := by
  unfold goesM at h
  split at h
  · cases h
  rename_i hin
  split at h
  · obtain rfl := Option.some.inj h
    refine ⟨fun x hx => ?_, by simp only; omega, by omega, by omega⟩
    rcases List.mem_or_eq_of_mem_set hx with hx | rfl
    · have := hs x hx; simp only; omega
    · simp only; omega
  split at h
  · obtain rfl := Option.some.inj h
    exact ⟨fun x hx => by have := hs x hx; simp only; omega, by simp only; omega, by omega, by omega⟩
  · cases h
theorem goM_hm {len : Nat} {i : Int} : ∀ {l : List (Int × Int)} {s s' : List Int × Int}, goM len i l s = some s' → Hm s → Hm s' ∧ s.2 ≤ s'.2 ∧ ∀ t ∈ l, i < t.1 ∧ t.1 < len
  | [], s, s', h, hs => by obtain rfl := Option.some.inj h; exact ⟨hs, Int.le_refl _, by simp⟩
  | t :: r, s, s', h, hs => by
    simp only [goM] at h
    cases h1 : goesM len i t s with
    | none => rw [h1] at h; cases h
    | some s1 =>
      rw [h1] at h
      obtain ⟨a1, a2, a3⟩ := goesM_hm h1 hs
      obtain ⟨b1, b2, b3⟩ := goM_hm (l := r) h a1
      refine ⟨b1, by omega, fun u hu => ?_⟩
      rcases List.mem_cons.1 hu with rfl | hu
      · exact a3
      · exact b3 u hu

theorem armsL_to {len : Nat} {i h : Int} (hi : 0 ≤ i) (hlen : len ≤ 1048576) : ∀ {ks : List (List Bool)} {to : List Int} {l : List (Int × Int)}, armsL ks to h = some l → to.length = 2 * ks.length → (∀ k ∈ ks, k.length ≤ 16) → (∀ t ∈ l, i < t.1 ∧ t.1 < len) → ∀ t ∈ to, 0 ≤ t ∧ t ≤ 1048576
  | [], to, l, e, hl, _, _, t, ht => by
    have : to = [] := List.length_eq_zero_iff.1 (by simpa using hl)
    subst this
    simp at ht
  | k :: r, [], l, e, hl, _, _, t, ht => by simp at ht
  | k :: r, [_], l, e, hl, _, _, t, ht => by simp at hl; omega
  | k :: r, x :: m :: to, l, e, hl, hk, hb, t, ht => by
    simp only [armsL] at e
    split at e
    · rename_i hm
      cases h1 : armsL r to h with
      | none => rw [h1] at e; cases e
      | some l' =>
        rw [h1] at e
        obtain rfl := Option.some.inj e
        have hk0 := hk k (by simp)
        have hb0 := hb (x, h - 1 + k.length) (by simp)
        simp only at hb0
        rcases List.mem_cons.1 ht with rfl | ht
        · omega
        rcases List.mem_cons.1 ht with rfl | ht
        · omega
        · exact armsL_to hi hlen h1 (by simp at hl; omega) (fun k hk' => hk k (by simp [hk'])) (fun u hu => hb u (by simp [hu])) t ht
    · cases e

theorem famM_in {c : Cod} {e : Int} (h : famM c e = true) : 0 ≤ e ∧ e ≤ c.shapes.length - 1 := by
  simp [famM, inM] at h
  exact h.1
theorem kept_small {c : Cod} (hc : Small c) (e : Int) : (keptM c e).length ≤ 16 ∧ ∀ k ∈ keptM c e, k.length ≤ 16 := by
  unfold keptM
  cases hs : c.shapes[e.toNat]? with
  | none => simp
  | some s =>
    have := hc.shp s (List.mem_of_getElem? hs)
    exact ⟨this.kept, this.each⟩
theorem zero_ab {n : Ins} (h : n.zero = true) : n.a = 0 ∧ n.b = 0 := by simpa [Ins.zero] using h

theorem plainM_ok {c : Cod} (hc : Small c) {n : Ins} {h fl p : Int} (hh : 0 ≤ h ∧ h ≤ 4096) (hf : 0 ≤ fl) (e : plainM c n h = some p) (hp : p ≤ h - fl) : (1 ≤ n.op ∧ n.op ≤ 14) ∧ (0 ≤ n.a ∧ n.a ≤ 1048576) ∧ (0 ≤ n.b ∧ n.b ≤ 1048576) := by
  have hfu := hc.funs
  have hbo := hc.bodies
  have hsh := hc.shapes
  unfold plainM at e
  by_cases h1 : n.op = 1
  · rw [if_pos h1] at e
    split at e
    · rename_i hz; have := zero_ab hz; omega
    · cases e
  rw [if_neg h1] at e
  by_cases h2 : n.op = 2
  · rw [if_pos h2] at e
    split at e
    · rename_i hz; simp [inM] at hz; omega
    · cases e
  rw [if_neg h2] at e
  by_cases h3 : n.op = 3
  · rw [if_pos h3] at e
    split at e
    · rename_i hz; simp [inM] at hz; omega
    · cases e
  rw [if_neg h3] at e
  by_cases h4 : n.op = 4
  · rw [if_pos h4] at e
    split at e
    · rename_i hz
      simp only [Bool.and_eq_true, decide_eq_true_eq] at hz
      obtain ⟨h5, h6⟩ := hz
      simp [inM] at h5
      cases hf : c.funs[n.a.toNat]? with
      | none => rw [hf] at h6; simp at h6
      | some f =>
        rw [hf] at h6
        have := hc.caps f (List.mem_of_getElem? hf)
        simp at h6
        omega
    · cases e
  rw [if_neg h4] at e
  by_cases h5 : n.op = 5
  · rw [if_pos h5] at e
    split at e
    · rename_i hz; have := zero_ab hz; omega
    · cases e
  rw [if_neg h5] at e
  by_cases h7 : n.op = 7
  · rw [if_pos h7] at e
    split at e
    · rename_i hz
      simp only [Bool.and_eq_true, decide_eq_true_eq] at hz
      obtain ⟨⟨h8, _⟩, h9⟩ := hz
      simp [inM] at h8
      omega
    · cases e
  rw [if_neg h7] at e
  by_cases h8 : n.op = 8
  · rw [if_pos h8] at e
    split at e
    · rename_i hz
      simp only [ctorM, Bool.and_eq_true, decide_eq_true_eq] at hz
      obtain ⟨h9, h10, h11⟩ := hz
      have := famM_in h10
      split at h11
      · rename_i k hk
        have h12 := (kept_small hc (n.a / 16)).2 k (List.mem_of_getElem? hk)
        simp at h11
        omega
      · cases h11
    · cases e
  rw [if_neg h8] at e
  by_cases h10 : n.op = 10
  · rw [if_pos h10] at e
    split at e
    · rename_i hz; have := zero_ab hz; omega
    · cases e
  rw [if_neg h10] at e
  by_cases h12 : n.op = 12
  · rw [if_pos h12] at e
    split at e
    · rename_i hz; simp [inM] at hz; omega
    · cases e
  rw [if_neg h12] at e
  by_cases h14 : n.op = 14
  · rw [if_pos h14] at e
    split at e
    · rename_i hz
      simp only [Bool.and_eq_true, decide_eq_true_eq] at hz
      have e := Option.some.inj e
      omega
    · cases e
  rw [if_neg h14] at e
  cases e

theorem nextM_ok {c : Cod} (hc : Small c) {len i : Nat} {n : Ins} {h fl : Int} {s s' : List Int × Int} {l : List (Int × Int)} (hh : fl ≤ h ∧ h ≤ 4096) (hf : 0 ≤ fl) (hlen : len ≤ 1048576) (e : nextM c i n h fl = some l) (hg : goM len i l s = some s') (hs : Hm s) : InsOk n := by
  have hgo := (goM_hm hg hs).2.2
  unfold nextM at e
  by_cases h6 : n.op = 6
  · rw [if_pos h6] at e
    split at e
    · rename_i hz
      simp only [Bool.and_eq_true, decide_eq_true_eq] at hz
      have h0 := zero_ab hz.1.1
      have ht : n.to = [] := List.length_eq_zero_iff.1 hz.1.2
      exact ⟨by omega, by omega, by omega, by rw [ht]; simp, by rw [ht]; simp⟩
    · cases e
  rw [if_neg h6] at e
  by_cases h13 : n.op = 13
  · rw [if_pos h13] at e
    split at e
    · rename_i hz
      simp only [Bool.and_eq_true, decide_eq_true_eq] at hz
      have h0 := zero_ab hz.1
      obtain rfl := Option.some.inj e
      have hg0 := hgo (n.to.getD 0 0, h) (by simp)
      simp only at hg0
      match ht : n.to, hz.2 with
      | [t], _ =>
        rw [ht] at hg0
        simp at hg0
        exact ⟨by omega, by omega, by omega, by rw [ht]; simp; omega, by rw [ht]; simp⟩
    · cases e
  rw [if_neg h13] at e
  by_cases h11 : n.op = 11
  · rw [if_pos h11] at e
    split at e
    · rename_i hz
      simp only [Bool.and_eq_true, decide_eq_true_eq] at hz
      have h0 := zero_ab hz.1.1
      obtain rfl := Option.some.inj e
      have hg0 := hgo (n.to.getD 0 0, h - 1) (by simp)
      simp only at hg0
      match ht : n.to, hz.1.2 with
      | [t], _ =>
        rw [ht] at hg0
        simp at hg0
        exact ⟨by omega, by omega, by omega, by rw [ht]; simp; omega, by rw [ht]; simp⟩
    · cases e
  rw [if_neg h11] at e
  by_cases h9 : n.op = 9
  · rw [if_pos h9] at e
    split at e
    · unfold armsM at e
      split at e
      · rename_i hz
        simp only [Bool.and_eq_true, decide_eq_true_eq] at hz
        obtain ⟨⟨⟨⟨hfam, _⟩, hb1⟩, hb2⟩, hb3⟩ := hz
        have hin := famM_in hfam
        have hks := kept_small hc n.a
        have hsh := hc.shapes
        exact ⟨by omega, by omega, by omega, armsL_to (by omega) hlen e (by omega) hks.2 hgo, by omega⟩
      · cases e
    · cases e
  rw [if_neg h9] at e
  cases hp : plainM c n h with
  | none => rw [hp] at e; cases e
  | some p =>
    rw [hp] at e
    simp only at e
    split at e
    · rename_i hz
      have ht : n.to = [] := List.length_eq_zero_iff.1 hz.1
      obtain ⟨a1, a2, a3⟩ := plainM_ok hc (by omega) hf hp hz.2
      exact ⟨a1, a2, a3, by rw [ht]; simp, by rw [ht]; simp⟩
    · cases e

theorem blkM_ok {c : Cod} (hc : Small c) (hco : CodOk c) {len : Nat} {fl : Int} (hf : 0 ≤ fl) (hlen : len ≤ 1048576) : ∀ {code : List Ins} {i : Nat} {s : List Int × Int} {r : Int}, i + code.length = len → blkM c len fl i code s = some r → s.1.length = len → Hm s → (∃ B, Hb fl B s) →
    s.2 ≤ r ∧ (r ≤ 4096 → ∀ n ∈ code, InsOk n)
  | [], i, s, r, _, h, _, _, _ => by obtain rfl := Option.some.inj h; exact ⟨Int.le_refl _, by simp⟩
  | n :: code, i, s, r, hi, h, hsl, hs, ⟨B, hB⟩ => by
    simp only [blkM] at h
    split at h
    · cases h
    rename_i hm
    cases ho : oneM c len fl i n s with
    | none => rw [ho] at h; cases h
    | some s' =>
      rw [ho] at h
      have h : blkM c len fl (i + 1) code s' = some r := h
      unfold oneM at ho
      cases hn : nextM c i n (s.1.getD i 0) fl with
      | none => rw [hn] at ho; cases ho
      | some l =>
        rw [hn] at ho
        have ho : goM len i l s = some s' := ho
        have hil : i < s.1.length := by simp at hi; omega
        have hmem := getD_mem0 hil
        obtain ⟨a1, a2, a3⟩ := goM_hm ho hs
        have hge : fl ≤ s.1.getD i 0 := by
          rcases hB.1 _ hmem with h | h
          · exact absurd h hm
          · exact h.1
        have hbd := nextM_bd hco hge hf hn
        have hle := hs _ hmem
        have hB' := goM_hb (B := max B (s.1.getD i 0 + 1099511627776)) ho (hB.mono (by omega)) (fun t ht => by have := hbd t ht; omega)
        obtain ⟨b1, b2⟩ := blkM_ok hc hco hf hlen (by simp at hi; omega) h (by rw [hB'.2]; exact hsl) a1 ⟨_, hB'.1⟩
        refine ⟨by omega, fun hr x hx => ?_⟩
        rcases List.mem_cons.1 hx with rfl | hx
        · exact nextM_ok hc ⟨hge, by omega⟩ hf hlen hn ho hs
        · exact b2 hr x hx

theorem blockM_ok {c : Cod} (hc : Small c) (hco : CodOk c) {fl : Int} (hf : 0 ≤ fl) {code : List Ins} (hlen : code.length ≤ 1048576) {r : Int} (h : blockM c code fl = some r) (hr : r ≤ 4096) : ∀ n ∈ code, InsOk n := by
  unfold blockM at h
  split at h
  · cases h
  rename_i h0
  refine (blkM_ok hc hco hf hlen (by omega) h (by simp; omega) (fun x hx => ?_) ⟨fl, fun x hx => ?_, by simp, by simp⟩).2 hr
  · simp at hx
    rcases hx with rfl | ⟨_, rfl⟩ <;> simp only <;> omega
  · simp at hx
    rcases hx with rfl | ⟨_, rfl⟩
    · exact .inr ⟨Int.le_refl _, Int.le_refl _⟩
    · exact .inl rfl

/-! ### all blocks -/
theorem stepB_le {c : Cod} {s : Bool × Int} {code : List Ins} {fl : Int} : s.2 ≤ (stepB c s code fl).2 ∧ ((stepB c s code fl).1 = true → s.1 = true ∧ ∃ r, blockM c code fl = some r ∧ r ≤ (stepB c s code fl).2) := by
  unfold stepB
  refine ⟨by simp only; omega, fun h => ?_⟩
  simp only [Bool.and_eq_true] at h
  refine ⟨h.1, ?_⟩
  cases hb : blockM c code fl with
  | none => rw [hb] at h; simp at h
  | some r => exact ⟨r, rfl, by simp only [Option.getD_some]; omega⟩

theorem foldF {c : Cod} : ∀ (l : List Cd.Fn) (s : Bool × Int), (l.foldl (stepF c) s).1 = true → s.1 = true ∧ s.2 ≤ (l.foldl (stepF c) s).2 ∧ ∀ f ∈ l, ∃ r, blockM c f.code (f.caps + 1) = some r ∧ r ≤ (l.foldl (stepF c) s).2
  | [], s, h => ⟨h, Int.le_refl _, by simp⟩
  | f :: l, s, h => by
    rw [List.foldl_cons] at h ⊢
    obtain ⟨h1, h2, h3⟩ := foldF l (stepF c s f) h
    obtain ⟨h4, h5⟩ := stepB_le (c := c) (s := s) (code := f.code) (fl := f.caps + 1)
    obtain ⟨h6, r, h7, h8⟩ := h5 h1
    have h2' : (stepB c s f.code (f.caps + 1)).2 ≤ (l.foldl (stepF c) (stepF c s f)).2 := h2
    refine ⟨h6, by omega, fun g hg => ?_⟩
    rcases List.mem_cons.1 hg with rfl | hg
    · exact ⟨r, h7, by omega⟩
    · exact h3 g hg
theorem foldY {c : Cod} : ∀ (l : List (List Ins)) (s : Bool × Int), (l.foldl (stepY c) s).1 = true → s.1 = true ∧ s.2 ≤ (l.foldl (stepY c) s).2 ∧ ∀ b ∈ l, 0 < b.length → ∃ r, blockM c b 0 = some r ∧ r ≤ (l.foldl (stepY c) s).2
  | [], s, h => ⟨h, Int.le_refl _, by simp⟩
  | b :: l, s, h => by
    rw [List.foldl_cons] at h ⊢
    obtain ⟨h1, h2, h3⟩ := foldY l (stepY c s b) h
    by_cases hb : 0 < b.length
    · have e : stepY c s b = stepB c s b 0 := by unfold stepY; rw [if_pos hb]
      obtain ⟨h4, h5⟩ := stepB_le (c := c) (s := s) (code := b) (fl := 0)
      rw [e] at h1 h2 h3 ⊢
      obtain ⟨h6, r, h7, h8⟩ := h5 h1
      refine ⟨h6, by omega, fun g hg hgl => ?_⟩
      rcases List.mem_cons.1 hg with rfl | hg
      · exact ⟨r, h7, by omega⟩
      · exact h3 g hg hgl
    · have e : stepY c s b = s := by unfold stepY; rw [if_neg hb]
      rw [e] at h1 h2 h3 ⊢
      refine ⟨h1, h2, fun g hg hgl => ?_⟩
      rcases List.mem_cons.1 hg with rfl | hg
      · exact absurd hgl hb
      · exact h3 g hg hgl

/-- code that may be -/
structure Fine (c : Cod) : Prop where
  small : Small c
  nat : -1 ≤ c.nat ∧ c.nat ≤ 63
  size : sizeM c ≤ 16384
  main : ∀ n ∈ c.main, InsOk n
  mainLen : c.main.length ≠ 0
  funs : ∀ f ∈ c.funs, ∀ n ∈ f.code, InsOk n
  bodies : ∀ b ∈ c.bodies, ∀ n ∈ b, InsOk n

theorem shpOk_of {s : Shp} (h : shpOk s = true) : ShpOk s := by
  simp only [shpOk, Bool.and_eq_true, decide_eq_true_eq, Bool.not_eq_true', List.any_eq_false] at h
  obtain ⟨⟨⟨h1, h2⟩, h3⟩, h4⟩ := h
  exact ⟨⟨h1, h2⟩, h3, fun k hk => by have := h4 k hk; simpa using this⟩
theorem entsOk_all : ∀ (bs : List (List Nd)) (ss : List Shp), bs.length = ss.length → entsOk bs ss = true → ∀ s ∈ ss, ShpOk s
  | [], [], _, _, s, hs => by simp at hs
  | b :: bs, x :: ss, hl, h, s, hs => by
    simp only [entsOk, Bool.and_eq_true] at h
    rcases List.mem_cons.1 hs with rfl | hs
    · have := h.1
      simp only [entOk, Bool.and_eq_true] at this
      exact shpOk_of this.1
    · exact entsOk_all bs ss (by simpa using hl) h.2 s hs
  | [], _ :: _, hl, _, _, _ => by simp at hl
  | _ :: _, [], hl, _, _, _ => by simp at hl

theorem fine_of {c : Cod} (h : checkM c = 0) : Fine c := by
  unfold checkM at h
  split at h
  · cases h
  rename_i g1
  split at h
  · cases h
  rename_i g2
  split at h
  · cases h
  rename_i g3
  split at h
  · cases h
  rename_i g4
  split at h
  · cases h
  rename_i g5
  have hr : rightM (boxes c) c.shapes c.nat = true := by simpa using g3
  have hbl : (boxes c).length = c.bodies.length := by simp [boxes]
  simp only [rightM, Bool.and_eq_true, decide_eq_true_eq] at hr
  obtain ⟨hl, hents, hnat⟩ := hr
  have hshp := entsOk_all _ _ hl hents
  have hcaps : ∀ f ∈ c.funs, 0 ≤ f.caps ∧ f.caps ≤ 255 := fun f hf => by
    have g2 : c.funs.any (fun f => !inM f.caps 0 255) = false := by simpa using g2
    rw [List.any_eq_false] at g2
    simpa [inM] using g2 f hf
  have hsm : Small c := ⟨by omega, by omega, by omega, hcaps, by omega, hshp⟩
  have hco : CodOk c := ⟨hcaps, by omega, fun s hs k hk => by have := (hshp s hs).each k hk; omega⟩
  have hsz : sizeM c ≤ 16384 := by omega
  have hmost : (blocksM c).2 ≤ 4096 := by omega
  have hok : (blocksM c).1 = true := by simpa using g4
  obtain ⟨y1, y2, y3⟩ := foldY c.bodies _ hok
  obtain ⟨f1, f2, f3⟩ := foldF c.funs _ y1
  have hsum : c.main.length ≤ 16384 ∧ (∀ f ∈ c.funs, f.code.length ≤ 16384) ∧ ∀ b ∈ c.bodies, b.length ≤ 16384 := by
    unfold sizeM at hsz
    refine ⟨by omega, fun f hf => ?_, fun b hb => ?_⟩
    · have := le_sum (List.mem_map_of_mem (f := fun f : Cd.Fn => f.code.length) hf)
      omega
    · have := le_sum (List.mem_map_of_mem (f := List.length) hb)
      omega
  have hm : ∃ r, blockM c c.main 0 = some r ∧ r ≤ 4096 := by
    have f1 : (blockM c c.main 0).isSome = true := f1
    cases hb : blockM c c.main 0 with
    | none => rw [hb] at f1; simp at f1
    | some r =>
      rw [hb] at f2 y2
      simp only [Option.getD_some] at f2
      have e : blocksM c = c.bodies.foldl (stepY c) (c.funs.foldl (stepF c) ((blockM c c.main 0).isSome, (blockM c c.main 0).getD 0)) := rfl
      rw [e, hb] at hmost
      simp only [Option.getD_some] at hmost y2
      exact ⟨r, rfl, by omega⟩
  have e : blocksM c = c.bodies.foldl (stepY c) (c.funs.foldl (stepF c) ((blockM c c.main 0).isSome, (blockM c c.main 0).getD 0)) := rfl
  rw [e] at hmost
  refine ⟨hsm, ?_, hsz, ?_, ?_, fun f hf => ?_, fun b hb => ?_⟩
  · simp only [natOk, Bool.or_eq_true, Bool.and_eq_true, decide_eq_true_eq] at hnat
    rcases hnat with h | ⟨⟨⟨h1, h2⟩, _⟩, _⟩ <;> omega
  · obtain ⟨r, h1, h2⟩ := hm
    exact blockM_ok hsm hco (Int.le_refl _) (by omega) h1 h2
  · obtain ⟨r, h1, h2⟩ := hm
    intro h0
    unfold blockM at h1
    rw [if_pos h0] at h1
    cases h1
  · obtain ⟨r, h1, h2⟩ := f3 f hf
    have hc := hcaps f hf
    exact blockM_ok hsm hco (by omega) (by have := hsum.2.1 f hf; omega) h1 (by omega)
  · by_cases h0 : 0 < b.length
    · obtain ⟨r, h1, h2⟩ := y3 b hb h0
      exact blockM_ok hsm hco (Int.le_refl _) (by have := hsum.2.2 b hb; omega) h1 (by omega)
    · have : b = [] := List.length_eq_zero_iff.1 (by omega)
      subst this
      simp

/-! ### how many bytes -/
theorem flatMap_le {α : Type} {B : Nat} {f : α → List Nat} : ∀ (l : List α), (∀ x ∈ l, (f x).length ≤ B) → (l.flatMap f).length ≤ l.length * B
  | [], _ => by simp
  | x :: r, h => by
    have := flatMap_le r fun y hy => h y (by simp [hy])
    have := h x (by simp)
    simp only [List.flatMap_cons, List.length_append, List.length_cons, Nat.add_mul]
    omega
theorem numsB_le {xs : List Int} (h : ∀ x ∈ xs, x < 9223372036854775808) : (numsB xs).length ≤ xs.length * 10 :=
  flatMap_le xs fun x hx => formM_len10 (by have := h x hx; omega)
theorem insB_le {n : Ins} (h : InsOk n) : (insB n).length ≤ 360 := by
  have h1 : (numsB [n.op, n.a, n.b, n.to.length]).length ≤ 4 * 10 := numsB_le fun x hx => by
    have := h.op; have := h.a; have := h.b; have := h.len
    simp at hx
    omega
  have h2 : (numsB n.to).length ≤ n.to.length * 10 := numsB_le fun x hx => by have := h.to x hx; omega
  have := h.len
  unfold insB
  rw [List.length_append]
  omega
theorem blockB_le {b : List Ins} (h : ∀ n ∈ b, InsOk n) (hl : b.length ≤ 16384) : (blockB b).length ≤ 5898250 := by
  have h1 : (numsB [(b.length : Int)]).length ≤ 1 * 10 := numsB_le fun x hx => by simp at hx; omega
  have h2 := flatMap_le b (f := insB) (B := 360) fun n hn => insB_le (h n hn)
  unfold blockB
  rw [List.length_append]
  omega
theorem keptB_le {k : List Bool} (h : k.length ≤ 16) : (keptB k).length ≤ 170 := by
  have h1 : (numsB [(k.length : Int)]).length ≤ 1 * 10 := numsB_le fun x hx => by simp at hx; omega
  have h2 : (numsB (k.map bitI)).length ≤ (k.map bitI).length * 10 := numsB_le fun x hx => by
    simp only [List.mem_map] at hx
    obtain ⟨b, _, rfl⟩ := hx
    unfold bitI
    split <;> omega
  unfold keptB
  simp only [List.length_append, List.length_map] at h2 ⊢
  omega
theorem shpB_le {s : Shp} (h : ShpOk s) : (shpB s).length ≤ 2740 := by
  have h1 : (numsB [s.params, s.kept.length]).length ≤ 2 * 10 := numsB_le fun x hx => by have := h.params; have := h.kept; simp at hx; omega
  have h2 := flatMap_le s.kept (f := keptB) (B := 170) fun k hk => keptB_le (h.each k hk)
  have := h.kept
  unfold shpB
  rw [List.length_append]
  omega
theorem codB_le {c : Cod} (h : Fine c) : (codB c).length ≤ 549755813888 := by
  have hs := h.size
  have hsum : c.main.length ≤ 16384 ∧ (∀ f ∈ c.funs, f.code.length ≤ 16384) ∧ ∀ b ∈ c.bodies, b.length ≤ 16384 := by
    unfold sizeM at hs
    refine ⟨by omega, fun f hf => ?_, fun b hb => ?_⟩
    · have := le_sum (List.mem_map_of_mem (f := fun f : Cd.Fn => f.code.length) hf)
      omega
    · have := le_sum (List.mem_map_of_mem (f := List.length) hb)
      omega
  have sm := h.small
  have := sm.shapes
  have := sm.funs
  have := sm.bodies
  have h1 : (numsB [c.nat + 1, c.shapes.length]).length ≤ 2 * 10 := numsB_le fun x hx => by have := h.nat; simp at hx; omega
  have h2 := flatMap_le c.shapes (f := shpB) (B := 2740) fun s hs => shpB_le (sm.shp s hs)
  have h3 : (numsB [(c.funs.length : Int)]).length ≤ 1 * 10 := numsB_le fun x hx => by simp at hx; omega
  have h4 := flatMap_le c.funs (f := fnB) (B := 5898260) fun f hf => by
    have h5 : (numsB [f.caps]).length ≤ 1 * 10 := numsB_le fun x hx => by have := sm.caps f hf; simp at hx; omega
    have h6 := blockB_le (h.funs f hf) (hsum.2.1 f hf)
    unfold fnB
    rw [List.length_append]
    omega
  have h5 : (numsB [(c.bodies.length : Int)]).length ≤ 1 * 10 := numsB_le fun x hx => by simp at hx; omega
  have h6 := flatMap_le c.bodies (f := blockB) (B := 5898250) fun b hb => blockB_le (h.bodies b hb) (hsum.2.2 b hb)
  have h7 := blockB_le h.main hsum.1
  unfold codB
  simp only [List.length_append]
  omega
end Cd

/-
  The machine, in plain Lean: things told apart by when they were made; what an instruction does; collections; a run.
-/
set_option linter.unusedVariables false
set_option linter.unusedSimpArgs false
namespace Vm
open Cd Nm

/-- the base of a number's words -/
def BB : Nat := 4294967296
theorem BB_two : 2 ≤ BB := by decide
def mostSmall : Nat := 536870911

/-- a word: a small number, the box, a constructor without fields, a thing -/
inductive W where
  | num (n : Nat)
  | box
  | con (id : Nat)
  | ptr (x : Nat)
/-- a thing -/
inductive Th where
  | con (id : Nat) (b : List W)
  | clos (id : Nat) (b : List W)
  | big (n : Nat)
def Th.len : Th → Nat
  | .con _ b => b.length
  | .clos _ b => b.length
  | .big n => (digs BB n).length
def Th.kids : Th → List W
  | .con _ b => b
  | .clos _ b => b
  | .big _ => []

structure Fr where
  block : List Ins
  next : Nat
  base : Nat
/-- what is done, however the things stand in memory -/
structure Gs where
  things : List Th
  stack : List W
  frames : List Fr

/-- the number that a word is -/
def numW (G : List Th) : W → Option Nat
  | .num n => some n
  | .ptr x => match G[x]? with
    | some (.big n) => some n
    | _ => none
  | _ => none
/-- the constructor that a word is, with its fields -/
def conW (G : List Th) : W → Option (Nat × List W)
  | .con id => some (id, [])
  | .ptr x => match G[x]? with
    | some (.con id b) => some (id, b)
    | _ => none
  | _ => none
/-- the function that a word is, with what it takes along -/
def closW (G : List Th) : W → Option (Nat × List W)
  | .ptr x => match G[x]? with
    | some (.clos id b) => some (id, b)
    | _ => none
  | _ => none
def isBox : W → Bool
  | .box => true
  | _ => false

/-- what comes of an instruction: it is done; a thing is wanted in the place of so many words; the run ends -/
inductive Res where
  | go (s : Gs)
  | want (t : Th) (pops : Nat) (s : Gs)
  | stop (kind reason : Int)

def Gs.drop (s : Gs) (n : Nat) : List W := s.stack.take (s.stack.length - n)
def Gs.top (s : Gs) (n : Nat) : List W := s.stack.drop (s.stack.length - n)
/-- n words on top go, l comes -/
def Gs.swap (s : Gs) (n : Nat) (l : List W) : Gs := { s with stack := s.drop n ++ l }
def Gs.call (s : Gs) (b : List Ins) (base : Nat) : Gs := { s with frames := s.frames ++ [⟨b, 0, base⟩] }
/-- the top frame goes on at a place -/
def nextAt (fs : List Fr) (k : Nat) : List Fr := match fs.getLast? with
  | some f => fs.dropLast ++ [{ f with next := k }]
  | none => fs
def Gs.at (s : Gs) (k : Nat) : Gs := { s with frames := nextAt s.frames k }

def putN (s : Gs) (n pops : Nat) : Res :=
  if n ≤ mostSmall then .go (s.swap pops [.num n])
  else if 65535 < (digs BB n).length then .stop 3 0
  else .want (.big n) pops s

def primN (id : Int) (a b : Nat) : Nat := if id = 1 then a + b else if id = 2 then a * b else a - b

/-- an instruction of the top frame, which has gone on to the next place already -/
def insM (c : Cod) (s : Gs) (base : Nat) (n : Ins) : Res :=
  if n.op = 1 then .go (s.swap 0 [.box])
  else if n.op = 2 then .go (s.swap 0 [.num n.a.toNat])
  else if n.op = 3 then .go (s.swap 0 [s.stack.getD (base + n.a.toNat) .box])
  else if n.op = 4 then .want (.clos n.a.toNat (s.top n.b.toNat)) n.b.toNat s
  else if n.op = 5 then
    match s.top 2 with
    | [l, a] => if isBox l then .go (s.swap 2 [.box]) else match closW s.things l with
      | some (id, b) => .go ((s.swap 2 (b ++ [a])).call ((c.funs[id]?).map Fn.code |>.getD []) (s.stack.length - 2))
      | none => .stop 1 24
    | _ => .stop 0 0
  else if n.op = 6 then
    match s.top 1 with
    | [w] => .go { s with stack := s.stack.take base ++ [w], frames := s.frames.dropLast }
    | _ => .stop 0 0
  else if n.op = 7 then .go (s.call ((c.bodies[n.a.toNat]?).getD []) s.stack.length)
  else if n.op = 8 then (if n.b = 0 then .go (s.swap 0 [.con n.a.toNat]) else .want (.con n.a.toNat (s.top n.b.toNat)) n.b.toNat s)
  else if n.op = 9 then
    match s.top 1 with
    | [w] => match conW s.things w with
      | some (id, b) => if id / 16 = n.a.toNat then .go ((s.swap 1 b).at (n.to.getD (2 * (id % 16)) 0).toNat) else .stop 1 24
      | none => .stop 1 24
    | _ => .stop 0 0
  else if n.op = 10 then
    match s.top 1 with
    | [w] => match numW s.things w with
      | some x => putN s (x + 1) 1
      | none => .stop 1 24
    | _ => .stop 0 0
  else if n.op = 11 then
    match s.top 1 with
    | [w] => match numW s.things w with
      | some x => if x = 0 then .go ((s.swap 1 []).at (n.to.getD 0 0).toNat) else putN s (x - 1) 1
      | none => .stop 1 24
    | _ => .stop 0 0
  else if n.op = 12 then
    match s.top 2 with
    | [v, w] => match numW s.things v, numW s.things w with
      | some x, some y => putN s (primN n.a x y) 2
      | _, _ => .stop 1 24
    | _ => .stop 0 0
  else if n.op = 13 then .go (s.at (n.to.getD 0 0).toNat)
  else
    match s.top 1 with
    | [w] => .go (s.swap (n.a.toNat + 1) [w])
    | _ => .stop 0 0

/-! ### where things stand -/
def sizeT (G : List Th) (x : Nat) : Nat := 1 + ((G[x]?).map Th.len).getD 0
/-- how many words the things take -/
def used (G : List Th) (S : List Nat) : Nat := (S.map (sizeT G)).sum
/-- where a thing begins -/
def addr (G : List Th) : List Nat → Nat → Nat
  | [], _ => 0
  | y :: r, x => if y = x then 0 else sizeT G y + addr G r x
def kidsT (G : List Th) (x : Nat) : List W := ((G[x]?).map Th.kids).getD []
def meet (seen : List Nat) : W → List Nat
  | .ptr x => if x ∈ seen then seen else seen ++ [x]
  | _ => seen
def meetAll (seen : List Nat) (ws : List W) : List Nat := ws.foldl meet seen
/-- the things that are met: those of the roots, then those of the bodies -/
def scan (G : List Th) : Nat → Nat → List Nat → List Nat
  | 0, _, seen => seen
  | f + 1, k, seen => match seen[k]? with
    | none => seen
    | some x => scan G f (k + 1) (meetAll seen (kidsT G x))
def reach (G : List Th) (roots : List W) : List Nat := scan G (G.length + 1) 0 (meetAll [] roots)

/-- the machine: what is done, where the things stand, and what is counted -/
structure Ms where
  g : Gs
  S : List Nat
  fuel : Nat
  steps : Nat
  colls : Nat
  most : Nat
structure Out where
  kind : Int
  reason : Int
  value : List Nat
  steps : Nat
  colls : Nat
  most : Nat
def Ms.ended (m : Ms) (kind reason : Int) : Out := ⟨kind, reason, [], m.steps, m.colls, m.most⟩
/-- it goes on, or it has ended -/
inductive Go (α : Type) where
  | on (x : α)
  | off (o : Out)

def collectM (m : Ms) : Go Ms :=
  if m.fuel < 16 then .off (m.ended 4 0) else .on { m with fuel := m.fuel - 16, colls := m.colls + 1, S := reach m.g.things m.g.stack }
def roomM (words : Nat) (m : Ms) (need : Nat) : Go Ms :=
  if used m.g.things m.S + need ≤ words then .on m
  else match collectM m with
    | .off o => .off o
    | .on m' => if used m'.g.things m'.S + need ≤ words then .on m' else .off (m'.ended 3 0)
/-- a thing is made in the place of so many words -/
def allocM (m : Ms) (t : Th) (pops : Nat) : Ms :=
  let G := m.g.things ++ [t]
  let S := m.S ++ [m.g.things.length]
  { m with g := { m.g with things := G, stack := m.g.drop pops ++ [.ptr m.g.things.length] }, S := S, most := max m.most (used G S) }
def resM (words : Nat) (m : Ms) : Res → Go Ms
  | .go g => .on { m with g := g }
  | .want t pops g => match roomM words { m with g := g } (1 + t.len) with
    | .off o => .off o
    | .on m' => .on (allocM m' t pops)
  | .stop k r => .off (m.ended k r)
def stepM (c : Cod) (words : Nat) (m : Ms) : Go Ms :=
  match m.g.frames.getLast? with
  | none => .off (m.ended 0 0)
  | some f => match f.block[f.next]? with
    | none => .off (m.ended 0 0)
    | some n => resM words m (insM c (m.g.at (f.next + 1)) f.base n)

/-! ### a value's bytes -/
inductive Vr where
  | ok (b : List Nat)
  | bad (r : Nat)
def Vr.and : Vr → (List Nat → Vr) → Vr
  | .ok b, f => f b
  | .bad r, _ => .bad r
/-- numbers' forms behind bytes -/
def numsV (acc l : List Nat) : Vr :=
  if 65536 < (acc ++ l.flatMap formM).length then .bad 6 else .ok (acc ++ l.flatMap formM)
def eachV {α : Type} (f : α → List Nat → Vr) : List α → List Nat → Vr
  | [], acc => .ok acc
  | x :: r, acc => (f x acc).and (eachV f r)
def keptL (c : Cod) (id : Nat) : List Bool := ((keptM c (id / 16 : Nat))[id % 16]?).getD []
def pickL : List Bool → List W → List W
  | k :: r, w :: l => if k then w :: pickL r l else pickL r l
  | _, _ => []
def valM (c : Cod) (G : List Th) : Nat → W → List Nat → Vr
  | 0, _, _ => .bad 0
  | k + 1, w, acc => match numW G w with
    | some n => (numsV acc [0, (digs BB n).length]).and (eachV (fun d acc => numsV acc [d]) (digs BB n))
    | none => match conW G w with
      | some (id, b) => (numsV acc [id % 16 + 1, (pickL (keptL c id) b).length]).and (eachV (fun x acc => valM c G k x acc) (pickL (keptL c id) b))
      | none => .bad 23

/-! ### a run -/
def lastM (c : Cod) (m : Ms) : Out :=
  match m.g.stack with
  | w :: _ => match valM c m.g.things (m.g.things.length + 1) w [] with
    | .ok b => ⟨2, 0, b, m.steps, m.colls, m.most⟩
    | .bad r => m.ended 1 r
  | [] => m.ended 0 0
def loopM (c : Cod) (words : Nat) (forced : List Int) : Nat → Ms → Out
  | 0, m => m.ended 0 0
  | k + 1, m => match (if (m.steps : Int) ∈ forced then collectM m else .on m) with
    | .off o => o
    | .on m => if m.fuel = 0 then m.ended 4 0 else match stepM c words { m with fuel := m.fuel - 1, steps := m.steps + 1 } with
      | .off o => o
      | .on m => if m.g.frames.length = 0 then lastM c m else loopM c words forced k m
def beginM (c : Cod) (fuel : Nat) : Ms := ⟨⟨[], [], [⟨c.main, 0, 0⟩]⟩, [], fuel, 0, 0, 0⟩
def fuelM (fuel : Int) : Nat := min (max fuel 0).toNat 100000
def runM (c : Cod) (words fuel : Int) (forced : List Int) : Out :=
  if checkM c ≠ 0 then ⟨1, checkM c, [], 0, 0, 0⟩
  else if words < 1 ∨ 65536 < words then ⟨1, 1, [], 0, 0, 0⟩
  else loopM c words.toNat forced (fuelM fuel + 1) (beginM c (fuelM fuel))
end Vm

/-
  Package nat: Norm, Of, word, longest, Add32, Add.
-/
set_option linter.unusedSimpArgs false
set_option linter.unusedVariables false
namespace Go.Proofs.YtbggaljmollhmaaGreatDoor
open Go.Wx Nm Vm

abbrev rW : Rd Nat := rNat .u32 BB
/-- a number's words, as they come back -/
def IsNat (n : Nat) (w w' : World) (v : Value) : Prop := ∃ a c, v = .slice a (digs BB n).length c ∧ Sl rW (New w.heap.size w') a (digs BB n) ∧ (digs BB n).length ≤ c
section
variable {C : Mem} {w : World}
theorem norm_ct (hS : Sub C w) (l : List Nat) (a : Option Addr) (c : Nat) (hl : Sl rW C a l) (hlen : l.length ≤ 1000000) :
    CallOk Tryz.prog 141 ∧ Calls Tryz.prog 141 #[.slice a l.length c] w (fun e w' => (∃ v, e = .returned v ∧ IsNat (val BB l) w w' v) ∧ Kp [] w w') := by
  refine ⟨⟨_, Tryz.func141, rfl, by decide⟩, ?_⟩
  have hd : Dig BB l := hl.dig
  refine calls_of (args := [_]) 25 [.tmp 2] τok Tryz.func141 rfl rfl rfl (Nat.le_of_ble_eq_true rfl) ?_
  refine lp τok (σ := Nat) (fun n => [(0, .slice a l.length c), (3, .int .i64 n)]) (fun n w' => n ≤ l.length ∧ cut (l.take n) = cut l ∧ w' = w) (fun n => n) l.length rfl ⟨rfl, rfl, trivial⟩ ⟨Nat.le_refl _, by rw [List.take_length], rfl⟩ ?_
  rintro n w1 ⟨hn, hcut, rfl⟩
  -- what is behind the loop
  have fin : ∀ n : Nat, n ≤ l.length → cut (l.take n) = cut l → (n = 0 ∨ ∃ x, l[n - 1]? = some x ∧ x ≠ 0) → n = (digs BB (val BB l)).length ∧ l.take n = digs BB (val BB l) := fun n hn hcut h => by
    have e : l.take n = digs BB (val BB l) := by
      rw [digs_val BB_two hd, ← hcut]
      rcases h with rfl | ⟨x, hx, h0⟩
      · simp [cut_nil]
      · have hn0 : 0 < n := by
          rcases Nat.eq_zero_or_pos n with h | h
          · subst h
            rw [List.take_zero] at hcut
            rw [← digs_val BB_two hd] at hcut
            have hz := (digs_nil_iff BB_two).1 (hcut.symm.trans cut_nil)
            exact absurd (val_zero (by decide) hz x (List.mem_of_getElem? hx)) h0
          · exact h
        have e1 : l.take n = l.take (n - 1) ++ [x] := by
          have := take_get hx
          rwa [show n - 1 + 1 = n by omega] at this
        rw [e1, cut_append_pos _ h0]
    exact ⟨by rw [← e, List.length_take]; omega, e⟩
  refine br_dec (fun h => ?_) (fun h => ?_)
  · obtain ⟨x, hx, _⟩ := drop_get (l := l) (k := n - 1) (by omega)
    obtain ⟨b, o, rfl, hc, hxB⟩ := hl.nat hx
    refine int64 (by omega) (by omega) ?_
    refine ix (n - 1) (by omega) (by omega) ?_
    refine ldC hS hc ?_
    refine br_dec (fun h0 => ?_) (fun h0 => ?_)
    · have h0 : x = 0 := by omega
      subst h0
      refine int64 (by omega) (by omega) ?_
      refine ⟨n - 1, by omega, rfl, ⟨rfl, ?_, trivial⟩, by omega, ?_, rfl⟩
      · show some (Value.int .i64 ((n : Int) - 1)) = some (Value.int .i64 ((n - 1 : Nat) : Int))
        rw [show ((n - 1 : Nat) : Int) = (n : Int) - 1 by omega]
      · rw [← hcut]
        have := take_get hx
        rw [show n - 1 + 1 = n by omega] at this
        rw [this, cut_append_zero]
    · have hf := fin n hn hcut (.inr ⟨x, hx, by omega⟩)
      refine mk τok (z := [.int .u32 0]) rfl rfl n rfl (by decide) (by omega) (by omega) fun b2 w2 hb hB hs hk => ?_
      refine copyN τok rfl l (RowN.rep hB) (by simp) (hS.tr hk) hl rfl fun w3 hR hs3 hk3 => ?_
      refine ⟨⟨_, rfl, some ⟨b2, 0, none⟩, n, (by show Value.slice (some ⟨b2, 0, none⟩) n n = _; rw [← hf.1]), ?_, by omega⟩, hk.newSt hb hk3⟩
      have e : l.take (List.replicate n 0).length ++ (List.replicate n 0).drop l.length = digs BB (val BB l) := by
        rw [List.length_replicate, List.drop_of_length_le (by simp; omega), List.append_nil]
        exact hf.2
      rw [e] at hR
      exact hR.sl (digs_dig BB_two _) (by omega) (by omega)
  · have hf := fin n hn hcut (.inl (by omega))
    refine mk τok (z := [.int .u32 0]) rfl rfl n rfl (by decide) (by omega) (by omega) fun b2 w2 hb hB hs hk => ?_
    refine copyN τok rfl l (RowN.rep hB) (by simp) (hS.tr hk) hl rfl fun w3 hR hs3 hk3 => ?_
    refine ⟨⟨_, rfl, some ⟨b2, 0, none⟩, n, (by show Value.slice (some ⟨b2, 0, none⟩) n n = _; rw [← hf.1]), ?_, by omega⟩, hk.newSt hb hk3⟩
    have e : l.take (List.replicate n 0).length ++ (List.replicate n 0).drop l.length = digs BB (val BB l) := by
      rw [List.length_replicate, List.drop_of_length_le (by simp; omega), List.append_nil]
      exact hf.2
    rw [e] at hR
    exact hR.sl (digs_dig BB_two _) (by omega) (by omega)

theorem of_ct (n : Nat) (hn : n < 18446744073709551616) (w : World) :
    CallOk Tryz.prog 100 ∧ Calls Tryz.prog 100 #[.int .u64 (n : Int)] w (fun e w' => (∃ v, e = .returned v ∧ IsNat n w w' v) ∧ Kp [] w w') := by
  refine ⟨⟨_, Tryz.func100, rfl, by decide⟩, ?_⟩
  refine calls_of (args := [_]) 10 [.tmp 2] τok Tryz.func100 rfl rfl rfl (Nat.le_of_ble_eq_true rfl) ?_
  refine u32m (n % 4294967296) rfl ?_
  refine shr64 (n := 32) (n / 4294967296) (by decide) rfl ?_
  refine u32m (n / 4294967296) (Nat.mod_eq_of_lt (by omega)) ?_
  refine fill _ rfl ?_
  refine new fun b w1 hb hB hs hk => ?_
  have hR : RowN .u32 w1.heap b [n % 4294967296, n / 4294967296] 40 := hB
  have hd : Dig BB [n % 4294967296, n / 4294967296] := fun d hd => by
    simp at hd
    unfold BB
    omega
  have hv : val BB [n % 4294967296, n / 4294967296] = n := by
    simp only [val]
    unfold BB
    omega
  have hsl : Sl rW (New w.heap.size w1) (some ⟨b, 0, none⟩) [n % 4294967296, n / 4294967296] := hR.sl hd (by simp) (by omega)
  obtain ⟨l, hll, hl2⟩ : ∃ l : List Nat, [n % 4294967296, n / 4294967296] = l ∧ l.length = 2 := ⟨_, rfl, rfl⟩
  rw [hll] at hsl hv
  have hnc := norm_ct (New.sub _ w1) l (some ⟨b, 0, none⟩) 2 hsl (by omega)
  rw [hl2, hv] at hnc
  refine ev_call hnc ?_
  rintro e w2 ⟨⟨v, rfl, hv2⟩, hk2⟩
  obtain ⟨a, c, rfl, h1, h2⟩ := hv2
  exact ⟨⟨_, rfl, a, c, rfl, h1.mono (fun b o v h => ⟨Nat.le_trans hk.size h.1, h.2⟩), h2⟩, hk.tr hk2⟩

theorem word_ct (hS : Sub C w) (l : List Nat) (a : Option Addr) (c : Nat) (hl : Sl rW C a l) (i : Nat) :
    CallOk Tryz.prog 145 ∧ Calls Tryz.prog 145 #[.slice a l.length c, .int .i64 (i : Int)] w (fun e w' => e = .returned (.int .u32 (l.getD i 0 : Nat)) ∧ Kp [] w w') := by
  refine ⟨⟨_, Tryz.func145, rfl, by decide⟩, ?_⟩
  refine calls_of (args := [_, _]) 13 [.tmp 4] τok Tryz.func145 rfl rfl rfl (Nat.le_of_ble_eq_true rfl) ?_
  refine br_dec (fun h => ?_) (fun h => ?_)
  · obtain ⟨x, hx, _⟩ := drop_get (l := l) (k := i) (by omega)
    obtain ⟨b, o, rfl, hc, hxB⟩ := hl.nat hx
    refine ix i rfl (by omega) ?_
    refine ldC hS hc ?_
    have e : l.getD i 0 = x := by rw [List.getD_eq_getElem?_getD, hx]; rfl
    rw [e]
    exact ⟨rfl, Kp.refl _ _⟩
  · have e : l.getD i 0 = 0 := by rw [List.getD_eq_getElem?_getD, List.getElem?_eq_none (by omega)]; rfl
    rw [e]
    exact ⟨rfl, Kp.refl _ _⟩

theorem longest_ct {b : Nat} {n m c c' : Nat} {a a' : Option Addr} (hB : Bk w.heap b [.slice a n c, .slice a' m c'] 45) (hn : n ≤ 1099511627776) (hm : m ≤ 1099511627776) :
    CallOk Tryz.prog 143 ∧ Calls Tryz.prog 143 #[.slice (some ⟨b, 0, none⟩) 2 2] w (fun e w' => e = .returned (.int .i64 (max n m : Nat)) ∧ Kp [] w w') := by
  refine ⟨⟨_, Tryz.func143, rfl, by decide⟩, ?_⟩
  refine calls_of (args := [_]) 18 [.tmp 2] τok Tryz.func143 rfl rfl rfl (Nat.le_of_ble_eq_true rfl) ?_
  refine lp τok (σ := Nat) (fun k => [(0, .slice (some ⟨b, 0, none⟩) 2 2), (3, .int .i64 ((if k = 0 then 0 else if k = 1 then n else max n m : Nat) : Int)), (6, .slice (some ⟨b, 0, none⟩) 2 2), (7, .int .i64 2), (8, .int .i64 k)]) (fun k w' => k ≤ 2 ∧ w' = w) (fun k => 2 - k) 0 rfl ⟨rfl, rfl, rfl, rfl, rfl, trivial⟩ ⟨by omega, rfl⟩ ?_
  rintro k w1 ⟨hk, rfl⟩
  refine br_dec (fun h => ?_) (fun h => ?_)
  · refine ix k rfl (by omega) ?_
    match k, hk, h with
    | 0, _, _ =>
      refine ld (hB.cl rfl).cell ?_
      refine max64 ?_
      refine int64 (by omega) (by omega) ?_
      exact ⟨1, by omega, rfl, ⟨rfl, by show some (Value.int .i64 (max 0 (n : Int))) = some (Value.int .i64 (n : Int)); rw [Int.max_eq_right (by omega)], rfl, rfl, rfl, trivial⟩, by omega, rfl⟩
    | 1, _, _ =>
      refine ld (hB.cl rfl).cell ?_
      refine max64 ?_
      refine int64 (by omega) (by omega) ?_
      exact ⟨2, by omega, rfl, ⟨rfl, by show some (Value.int .i64 (max (n : Int) (m : Int))) = some (Value.int .i64 ((max n m : Nat) : Int)); rw [show ((max n m : Nat) : Int) = max (n : Int) (m : Int) by omega], rfl, rfl, rfl, trivial⟩, by omega, rfl⟩
    | k + 2, _, h => exact absurd h (by omega)
  · have : k = 2 := by omega
    subst this
    exact ⟨rfl, Kp.refl _ _⟩

theorem add32_ct (x y z : Nat) (hx : x < 4294967296) (hy : y < 4294967296) (hz : z ≤ 1) (w : World) :
    CallOk Tryz.prog 144 ∧ Calls Tryz.prog 144 #[.int .u32 (x : Int), .int .u32 (y : Int), .int .u32 (z : Int)] w (fun e w' => e = .returned (.tuple #[.int .u32 ((x + y + z) % 4294967296 : Nat), .int .u32 ((x + y + z) / 4294967296 : Nat)]) ∧ w' = w) := by
  refine ⟨⟨_, Tryz.func144, rfl, by decide⟩, ?_⟩
  refine calls_of (args := [_, _, _]) 22 [.tmp 6, .tmp 7] τok Tryz.func144 rfl rfl rfl (Nat.le_of_ble_eq_true rfl) ?_
  refine u64n x (by omega) rfl ?_
  refine u64n y (by omega) rfl ?_
  refine u64n (x + y) (by omega) (by omega) ?_
  refine u64n z (by omega) rfl ?_
  refine u64n (x + y + z) (by omega) (by omega) ?_
  refine u32m _ rfl ?_
  refine shr64 (n := 32) ((x + y + z) / 4294967296) (by decide) rfl ?_
  refine u32m _ (Nat.mod_eq_of_lt (by omega)) ?_
  exact ⟨rfl, rfl⟩

theorem add_ct (hS : Sub C w) (x y : List Nat) (a a' : Option Addr) (c c' : Nat) (hx : Sl rW C a x) (hy : Sl rW C a' y) (hxl : x.length ≤ 900000) (hyl : y.length ≤ 900000) :
    CallOk Tryz.prog 105 ∧ Calls Tryz.prog 105 #[.slice a x.length c, .slice a' y.length c'] w (fun e w' => (∃ v, e = .returned v ∧ IsNat (val BB x + val BB y) w w' v) ∧ Kp [] w w') := by
  refine ⟨⟨_, Tryz.func105, rfl, by decide⟩, ?_⟩
  have hdx : Dig BB x := hx.dig
  have hdy : Dig BB y := hy.dig
  refine calls_of (args := [_, _]) 36 [.tmp 4] τok Tryz.func105 rfl rfl rfl (Nat.le_of_ble_eq_true rfl) ?_
  refine fill _ rfl ?_
  refine new fun b1 w1 hb1 hB1 hs1 hk1 => ?_
  refine ev_call (longest_ct (n := x.length) (m := y.length) hB1 (by omega) (by omega)) ?_
  rintro e w2 ⟨rfl, hk2⟩
  obtain ⟨M, hM⟩ : ∃ M, M = max x.length y.length + 1 := ⟨_, rfl⟩
  refine i64n (M : Int) (by omega) (by omega) (by omega) ?_
  refine mk τok (z := [.int .u32 0]) rfl rfl M rfl (by decide) (by omega) (by omega) fun b3 w3 hb3 hB3 hs3 hk3 => ?_
  have hk03 := (hk1.tr hk2).tr hk3
  have hR3 := RowN.rep hB3
  have hb3g : w.heap.size ≤ b3 := by rw [hb3]; exact (hk1.tr hk2).size
  have hb3l := hR3.lt
  refine lp τok (σ := Nat × List Nat × Nat) (fun q => [(0, .slice a x.length c), (1, .slice a' y.length c'), (5, .slice (some ⟨b3, 0, none⟩) M M), (6, .int .u32 (q.2.2 : Int)), (14, .slice (some ⟨b3, 0, none⟩) M M), (15, .int .i64 M), (16, .int .i64 q.1)])
    (fun q w' => q.1 ≤ M ∧ q.2.1.length = M ∧ Dig BB q.2.1 ∧ q.2.2 ≤ 1 ∧ RowN .u32 w'.heap b3 q.2.1 40 ∧ Kp [b3] w3 w' ∧ val BB (q.2.1.take q.1) + BB ^ q.1 * q.2.2 = val BB (x.take q.1) + val BB (y.take q.1)) (fun q => M - q.1) (0, List.replicate M 0, 0) rfl
    ⟨rfl, rfl, rfl, rfl, rfl, rfl, rfl, trivial⟩ ⟨Nat.zero_le _, by simp, dig_rep (by decide) _, Nat.zero_le _, hR3, Kp.refl _ _, by simp [val]⟩ ?_
  rintro ⟨i, o, cy⟩ w4 ⟨hi, hol, hod, hcy, hR, hk4, hval⟩
  simp only at hi hol hod hcy hR hval
  have hS4 : Sub C w4 := (hS.tr hk03).kp hk4 fun b o v hc => by have := hS.lt b o v hc; simp; omega
  refine br_dec (fun h => ?_) (fun h => ?_)
  · have hlt : i < M := by omega
    refine ev_call (word_ct hS4 x a c hx i) ?_
    rintro e w5 ⟨rfl, hk5⟩
    refine ev_call (word_ct (hS4.tr hk5) y a' c' hy i) ?_
    rintro e w6 ⟨rfl, hk6⟩
    obtain ⟨u, hu⟩ : ∃ u, x.getD i 0 = u := ⟨_, rfl⟩
    obtain ⟨v, hv⟩ : ∃ v, y.getD i 0 = v := ⟨_, rfl⟩
    have hu' : u < 4294967296 := by rw [← hu]; exact dig_getD hdx (by decide) i
    have hv' : v < 4294967296 := by rw [← hv]; exact dig_getD hdy (by decide) i
    rw [hu, hv]
    refine ev_call (add32_ct u v cy hu' hv' hcy w6) ?_
    rintro e w7 ⟨rfl, rfl⟩
    have hR7 := (hR.kp hk5 (by simp)).kp hk6 (by simp)
    refine ix i rfl hlt ?_
    refine stN' hR7 (by omega) fun w8 hR8 hs8 hk8 => ?_
    refine int64 (by omega) (by omega) ?_
    refine ⟨(i + 1, o.set i ((u + v + cy) % 4294967296), (u + v + cy) / 4294967296), by simp only; omega, rfl, ⟨rfl, rfl, rfl, rfl, rfl, rfl, rfl, trivial⟩, hlt, by simp only; rw [List.length_set]; exact hol, dig_set hod (by unfold BB; omega), by simp only; omega, hR8, ((hk4.tr hk5).tr hk6).trans hk8 (fun x hx _ => hx), ?_⟩
    simp only
    have e1 : (o.set i ((u + v + cy) % 4294967296)).take (i + 1) = o.take i ++ [(u + v + cy) % 4294967296] := by
      rw [take_get (l := o.set i _) (k := i) (x := (u + v + cy) % 4294967296) (by rw [List.getElem?_set]; simp; omega), List.take_set_of_le (Nat.le_refl _)]
    rw [e1, val_append, val_take_getD, val_take_getD, hu, hv, List.length_take, Nat.min_eq_left (by omega), Nat.pow_succ]
    have e2 : val BB [(u + v + cy) % 4294967296] = (u + v + cy) % 4294967296 := by simp [val]
    have e3 : BB * ((u + v + cy) / 4294967296) + (u + v + cy) % 4294967296 = u + v + cy := by unfold BB; omega
    rw [e2, Nat.mul_assoc]
    have e4 : BB ^ i * (BB * ((u + v + cy) / 4294967296)) + BB ^ i * ((u + v + cy) % 4294967296) = BB ^ i * u + BB ^ i * v + BB ^ i * cy := by
      rw [← Nat.mul_add, e3, Nat.mul_add, Nat.mul_add]
    omega
  · have hiM : i = M := by omega
    subst hiM
    rw [List.take_of_length_le (by omega), List.take_of_length_le (by omega), List.take_of_length_le (by omega)] at hval
    have hcz : cy = 0 := by
      rcases Nat.eq_zero_or_pos cy with h | h
      · exact h
      · exfalso
        have h1 := val_lt hdx
        have h2 := val_lt hdy
        have h3 : BB ^ x.length ≤ BB ^ (i - 1) := Nat.pow_le_pow_right (by decide) (by omega)
        have h4 : BB ^ y.length ≤ BB ^ (i - 1) := Nat.pow_le_pow_right (by decide) (by omega)
        have h5 : BB ^ i = BB ^ (i - 1) * BB := by rw [← Nat.pow_succ]; congr 1; omega
        have h6 : BB ^ (i - 1) * 2 ≤ BB ^ (i - 1) * BB := Nat.mul_le_mul_left _ BB_two
        have h7 : BB ^ i * 1 ≤ BB ^ i * cy := Nat.mul_le_mul_left _ h
        omega
    subst hcz
    rw [Nat.mul_zero, Nat.add_zero] at hval
    have hsl : Sl rW (New w.heap.size w4) (some ⟨b3, 0, none⟩) o := hR.sl hod (by omega) hb3g
    have hnc := norm_ct (New.sub w.heap.size w4) o (some ⟨b3, 0, none⟩) i hsl (by omega)
    rw [hol, hval] at hnc
    refine ev_call hnc ?_
    rintro e w5 ⟨⟨v, rfl, a5, c5, rfl, h1, h2⟩, hk5⟩
    have hk04 : Kp [] w w4 := hk03.trans hk4 fun x hx hl => by simp at hx; omega
    exact ⟨⟨_, rfl, a5, c5, rfl, h1.mono (fun b o v h => ⟨Nat.le_trans hk04.size h.1, h.2⟩), h2⟩, hk04.tr hk5⟩
end
end Go.Proofs.YtbggaljmollhmaaGreatDoor

