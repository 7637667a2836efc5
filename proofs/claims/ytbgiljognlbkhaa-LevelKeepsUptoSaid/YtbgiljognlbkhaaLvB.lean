/-
  Levels, in plain Lean: the reference's distances are those of the closed graph.
-/
import Derived.Test.YtbgiljognlbkhaaLvA
namespace Lv

def gt (d : List Int) (v : Nat) : Int := d.getD v 0
theorem gt_set (d : List Int) (i : Nat) (x : Int) (v : Nat) : gt (d.set i x) v = if i = v ∧ v < d.length then x else gt d v := by
  unfold gt
  simp only [List.getD_eq_getElem?_getD, List.getElem?_set]
  by_cases h : i = v
  · subst h
    by_cases h2 : i < d.length
    · simp [h2]
    · simp [h2]
  · simp [h]

structure Inv (n : Nat) (os : List Order) (low : Int) (B : Int) (d : List Int) : Prop where
  len : d.length = n
  bd : ∀ v, v < n → gt d v = non ∨ (-B ≤ gt d v ∧ gt d v ≤ B)
  walk : ∀ v, v < n → gt d v ≠ non → Walk n os low v (gt d v)

def Good (n : Nat) (os : List Order) : Prop := ∀ o ∈ os, Rg n o.low ∧ Rg n o.high ∧ -1000 ≤ o.add ∧ o.add ≤ 1000
def GeD (n : Nat) (d d' : List Int) : Prop := ∀ v, v < n → gt d v ≤ gt d' v

theorem GeD.refl (n : Nat) (d : List Int) : GeD n d d := fun _ _ => Int.le_refl _
theorem GeD.trans {n : Nat} {a b c : List Int} (h : GeD n a b) (k : GeD n b c) : GeD n a c := fun v hv => Int.le_trans (h v hv) (k v hv)

theorem Inv.mono {n : Nat} {os : List Order} {low B B' : Int} {d : List Int} (h : Inv n os low B d) (hB : B ≤ B') : Inv n os low B' d :=
  ⟨h.len, fun v hv => by rcases h.bd v hv with h1 | h1; exact .inl h1; exact .inr (by omega), h.walk⟩

theorem zStep_inv {n : Nat} {os : List Order} {low B : Int} {s : List Int × Bool} (h : Inv n os low B s.1) {v : Nat} (hv : v < n) :
    Inv n os low B (zStep v s).1 ∧ GeD n s.1 (zStep v s).1 ∧ (gt s.1 0 ≠ non → gt s.1 0 ≤ gt (zStep v s).1 v) ∧ ((zStep v s).2 = false → zStep v s = s ∧ (gt s.1 0 = non ∨ gt s.1 0 ≤ gt s.1 v)) ∧ ((zStep v s).2 = true → s.2 = true ∨ ∃ u, u < n ∧ gt s.1 u < gt (zStep v s).1 u) := by
  unfold zStep
  split
  · rename_i hc
    obtain ⟨h1, h2⟩ := hc
    have h1' : gt s.1 0 ≠ non := h1
    have h2' : gt s.1 v < gt s.1 0 := h2
    have hn : 0 < n := by omega
    have hb0 := h.bd 0 hn
    refine ⟨⟨by simp [h.len], fun u hu => ?_, fun u hu hne => ?_⟩, fun u hu => ?_, fun _ => ?_, ⟨fun hf => (by cases hf), fun _ => .inr ⟨v, hv, by simp only [gt_set, true_and]; rw [if_pos (by rw [h.len]; exact hv)]; exact h2'⟩⟩⟩
    · simp only [gt_set]; split
      · exact hb0
      · exact h.bd u hu
    · simp only [gt_set] at hne ⊢; split
      · rename_i e
        obtain ⟨e1, _⟩ := e
        subst e1
        have hw := h.walk 0 hn h1'
        have := Walk.snoc hw (.zero (v : Int) (rg_cast hv))
        simpa [gt] using this
      · rename_i e; rw [if_neg e] at hne; exact h.walk u hu hne
    · simp only [gt_set]; split
      · rename_i e; obtain ⟨e1, _⟩ := e; subst e1; exact Int.le_of_lt h2'
      · exact Int.le_refl _
    · simp only [gt_set, true_and]; rw [if_pos (by rw [h.len]; exact hv)]; exact Int.le_refl _
  · rename_i hc
    have hc' : gt s.1 0 = non ∨ gt s.1 0 ≤ gt s.1 v := by
      unfold gt
      by_cases e : s.1.getD 0 0 = non
      · exact .inl e
      · exact .inr (by
          have : ¬ (s.1.getD v 0 < s.1.getD 0 0) := fun hlt => hc ⟨e, hlt⟩
          omega)
    exact ⟨h, GeD.refl _ _, fun hne => hc'.resolve_left hne, fun _ => ⟨rfl, hc'⟩, fun ht => .inl ht⟩

theorem oStep_inv {n : Nat} {os : List Order} {low B : Int} {s : List Int × Bool} (h : Inv n os low B s.1) {o : Order} (ho : o ∈ os) (hg : Good n os) :
    Inv n os low (B + 1000) (oStep s o).1 ∧ GeD n s.1 (oStep s o).1 ∧ (gt s.1 o.low.toNat ≠ non → gt s.1 o.low.toNat + o.add ≤ gt (oStep s o).1 o.high.toNat) ∧
      ((oStep s o).2 = false → oStep s o = s ∧ (gt s.1 o.low.toNat = non ∨ gt s.1 o.low.toNat + o.add ≤ gt s.1 o.high.toNat)) ∧ ((oStep s o).2 = true → s.2 = true ∨ ∃ u, u < n ∧ gt s.1 u < gt (oStep s o).1 u) := by
  obtain ⟨hl, hh, ha1, ha2⟩ := hg o ho
  unfold Rg at hl hh
  have hln : o.low.toNat < n := by omega
  have hhn : o.high.toNat < n := by omega
  have hbl := h.bd _ hln
  unfold oStep
  split
  · rename_i hc
    obtain ⟨h1, h2⟩ := hc
    have h1' : gt s.1 o.low.toNat ≠ non := h1
    have h2' : gt s.1 o.high.toNat < gt s.1 o.low.toNat + o.add := h2
    have hbl' := hbl.resolve_left h1'
    refine ⟨⟨by simp [h.len], fun u hu => ?_, fun u hu hne => ?_⟩, fun u hu => ?_, fun _ => ?_, ⟨fun hf => (by cases hf), fun _ => .inr ⟨o.high.toNat, hhn, by simp only [gt_set, true_and]; rw [if_pos (by rw [h.len]; exact hhn)]; exact h2'⟩⟩⟩
    · simp only [gt_set]; split
      · right; unfold gt at hbl'; omega
      · rcases h.bd u hu with h3 | h3
        · exact .inl h3
        · exact .inr (by omega)
    · simp only [gt_set] at hne ⊢; split
      · rename_i e
        obtain ⟨e1, _⟩ := e
        have hw := h.walk _ hln h1'
        have e2 : ((o.low.toNat : Nat) : Int) = o.low := by omega
        have e3 : ((u : Nat) : Int) = o.high := by omega
        rw [e2] at hw
        have := Walk.snoc hw (.ord o ho (by unfold Rg; omega) (by unfold Rg; omega))
        rw [e3]
        exact this
      · rename_i e; rw [if_neg e] at hne; exact h.walk u hu hne
    · simp only [gt_set]; split
      · rename_i e; obtain ⟨e1, _⟩ := e; subst e1; exact Int.le_of_lt h2'
      · exact Int.le_refl _
    · simp only [gt_set, true_and]; rw [if_pos (by rw [h.len]; exact hhn)]; exact Int.le_refl _
  · rename_i hc
    have hc' : gt s.1 o.low.toNat = non ∨ gt s.1 o.low.toNat + o.add ≤ gt s.1 o.high.toNat := by
      unfold gt
      by_cases e : s.1.getD o.low.toNat 0 = non
      · exact .inl e
      · exact .inr (by
          have : ¬ (s.1.getD o.high.toNat 0 < s.1.getD o.low.toNat 0 + o.add) := fun hlt => hc ⟨e, hlt⟩
          omega)
    exact ⟨h.mono (by omega), GeD.refl _ _, fun hne => hc'.resolve_left hne, fun _ => ⟨rfl, hc'⟩, fun ht => .inl ht⟩

theorem ne_non_ge {n : Nat} {os : List Order} {low B : Int} {d d' : List Int} (h : Inv n os low B d) (hB : B < 1000000000) (hge : GeD n d d') {v : Nat} (hv : v < n) (hne : gt d v ≠ non) : gt d' v ≠ non := by
  have h1 := (h.bd v hv).resolve_left hne
  have h2 := hge v hv
  intro e
  unfold non at e
  omega

/-- the first half of a round -/
theorem zs_inv {n : Nat} {os : List Order} {low B : Int} {d : List Int} (h : Inv n os low B d) (hB : B < 1000000000) : ∀ k, k ≤ n →
    Inv n os low B (rng zStep k (d, false)).1 ∧ GeD n d (rng zStep k (d, false)).1 ∧ (gt d 0 ≠ non → ∀ v, v < k → gt d 0 ≤ gt (rng zStep k (d, false)).1 v) ∧
      ((rng zStep k (d, false)).2 = false → rng zStep k (d, false) = (d, false) ∧ ∀ v, v < k → gt d 0 = non ∨ gt d 0 ≤ gt d v) ∧ ((rng zStep k (d, false)).2 = true → ∃ u, u < n ∧ gt d u < gt (rng zStep k (d, false)).1 u)
  | 0, _ => ⟨h, GeD.refl _ _, ⟨fun _ v hv => (by omega), ⟨fun _ => ⟨rfl, fun v hv => (by omega)⟩, fun ht => (by cases ht)⟩⟩⟩
  | k + 1, hk => by
    obtain ⟨i1, i2, i3, i4, i5⟩ := zs_inv h hB k (by omega)
    obtain ⟨j1, j2, j3, j4, j5⟩ := zStep_inv i1 (v := k) (by omega)
    refine ⟨j1, i2.trans j2, fun hne v hv => ?_, fun hf => ?_, fun ht => ?_⟩
    · have hn : 0 < n := by omega
      by_cases e : v = k
      · subst e
        have h0 := ne_non_ge h hB i2 hn hne
        have := j3 h0
        have h2 := i2 0 hn
        simp only [rng]
        omega
      · have h1 := i3 hne v (by omega)
        have h2 := j2 v (by omega)
        simp only [rng]
        omega
    · simp only [rng] at hf ⊢
      obtain ⟨e, hc⟩ := j4 hf
      rw [e] at hf ⊢
      obtain ⟨e2, hc2⟩ := i4 hf
      rw [e2] at hc
      refine ⟨e2, fun v hv => ?_⟩
      by_cases e3 : v = k
      · subst e3; exact hc
      · exact hc2 v (by omega)
    · rcases j5 ht with h1 | ⟨u, hu, h1⟩
      · obtain ⟨u, hu, h2⟩ := i5 h1
        exact ⟨u, hu, Int.lt_of_lt_of_le h2 (j2 u hu)⟩
      · exact ⟨u, hu, Int.lt_of_le_of_lt (i2 u hu) h1⟩

theorem os_inv {n : Nat} {os : List Order} {low : Int} (hg : Good n os) : ∀ (r : List Order) (B : Int) (s : List Int × Bool), (∀ o ∈ r, o ∈ os) → Inv n os low B s.1 → B + 1000 * r.length < 999000000 →
    Inv n os low (B + 1000 * r.length) (r.foldl oStep s).1 ∧ GeD n s.1 (r.foldl oStep s).1 ∧ (∀ o ∈ r, gt s.1 o.low.toNat ≠ non → gt s.1 o.low.toNat + o.add ≤ gt (r.foldl oStep s).1 o.high.toNat) ∧
      ((r.foldl oStep s).2 = false → r.foldl oStep s = s ∧ ∀ o ∈ r, gt s.1 o.low.toNat = non ∨ gt s.1 o.low.toNat + o.add ≤ gt s.1 o.high.toNat) ∧ ((r.foldl oStep s).2 = true → s.2 = true ∨ ∃ u, u < n ∧ gt s.1 u < gt (r.foldl oStep s).1 u)
  | [], B, s, _, h, _ => ⟨by simpa using h, GeD.refl _ _, ⟨fun o ho => (by cases ho), ⟨fun _ => ⟨rfl, fun o ho => (by cases ho)⟩, fun ht => .inl ht⟩⟩⟩
  | o :: r, B, s, hr, h, hB => by
    simp only [List.length_cons] at hB
    obtain ⟨j1, j2, j3, j4, j5⟩ := oStep_inv h (hr o (by simp)) hg
    obtain ⟨i1, i2, i3, i4, i5⟩ := os_inv hg r (B + 1000) (oStep s o) (fun q hq => hr q (by simp [hq])) j1 (by omega)
    simp only [List.foldl_cons, List.length_cons]
    have e : B + 1000 + 1000 * (r.length : Int) = B + 1000 * ((r.length + 1 : Nat) : Int) := by omega
    rw [e] at i1
    refine ⟨i1, j2.trans i2, fun q hq hne => ?_, fun hf => ?_, fun ht => ?_⟩
    · have hq' := hg q (hr q hq)
      unfold Rg at hq'
      rcases List.mem_cons.1 hq with rfl | hq
      · have h1 := j3 hne
        have h2 := i2 q.high.toNat (by omega)
        omega
      · have hne' := ne_non_ge h (by omega) j2 (v := q.low.toNat) (by omega) hne
        have h1 := i3 q hq hne'
        have h2 := j2 q.low.toNat (by omega)
        omega
    · obtain ⟨e1, c1⟩ := i4 hf
      rw [e1] at hf
      obtain ⟨e2, c2⟩ := j4 hf
      refine ⟨by rw [e1, e2], fun q hq => ?_⟩
      rcases List.mem_cons.1 hq with rfl | hq
      · exact c2
      · have := c1 q hq
        rw [e2] at this
        exact this
    · rcases i5 ht with h1 | ⟨u, hu, h1⟩
      · rcases j5 h1 with h2 | ⟨u, hu, h2⟩
        · exact .inl h2
        · exact .inr ⟨u, hu, Int.lt_of_lt_of_le h2 (i2 u hu)⟩
      · exact .inr ⟨u, hu, Int.lt_of_le_of_lt (j2 u hu) h1⟩

/-- no order asks for more -/
structure Fix (n : Nat) (os : List Order) (d : List Int) : Prop where
  zero : ∀ v, v < n → gt d 0 = non ∨ gt d 0 ≤ gt d v
  ord : ∀ o ∈ os, gt d o.low.toNat = non ∨ gt d o.low.toNat + o.add ≤ gt d o.high.toNat

theorem round_spec {n : Nat} {os : List Order} {low B : Int} {d : List Int} (hg : Good n os) (h : Inv n os low B d) (hB : B + 1000 * os.length < 999000000) :
    Inv n os low (B + 1000 * os.length) (round n os d).1 ∧ GeD n d (round n os d).1 ∧ (gt d 0 ≠ non → ∀ v, v < n → gt d 0 ≤ gt (round n os d).1 v) ∧ (∀ o ∈ os, gt d o.low.toNat ≠ non → gt d o.low.toNat + o.add ≤ gt (round n os d).1 o.high.toNat) ∧
      ((round n os d).2 = false → (round n os d).1 = d ∧ Fix n os d) ∧ ((round n os d).2 = true → ∃ u, u < n ∧ gt d u < gt (round n os d).1 u) := by
  obtain ⟨i1, i2, i3, i4, i5⟩ := zs_inv h (by omega) n (Nat.le_refl _)
  obtain ⟨j1, j2, j3, j4, j5⟩ := os_inv hg os B (rng zStep n (d, false)) (fun _ h => h) i1 hB
  refine ⟨j1, i2.trans j2, fun hne v hv => ?_, fun o ho hne => ?_, fun hf => ?_, fun ht => ?_⟩
  · have h1 := i3 hne v hv
    have h2 := j2 v hv
    unfold round
    omega
  · have hq := hg o ho
    unfold Rg at hq
    have hne' := ne_non_ge h (by omega) i2 (v := o.low.toNat) (by omega) hne
    have h1 := j3 o ho hne'
    have h2 := i2 o.low.toNat (by omega)
    unfold round
    omega
  · obtain ⟨e1, c1⟩ := j4 hf
    unfold round at hf ⊢
    rw [e1] at hf ⊢
    obtain ⟨e2, c2⟩ := i4 hf
    rw [e2] at c1 ⊢
    exact ⟨rfl, c2, c1⟩
  · rcases j5 ht with h1 | ⟨u, hu, h1⟩
    · obtain ⟨u, hu, h2⟩ := i5 h1
      exact ⟨u, hu, Int.lt_of_lt_of_le h2 (j2 u hu)⟩
    · exact ⟨u, hu, Int.lt_of_le_of_lt (i2 u hu) h1⟩

theorem fromGo_spec {n : Nat} {os : List Order} {low : Int} (hg : Good n os) (hl : os.length ≤ 64) : ∀ (r : Nat) (B : Int) (d d' : List Int), Inv n os low B d → B + 64000 * r < 900000000 → fromGo n os r d = some d' → Inv n os low 900000000 d' ∧ GeD n d d' ∧ Fix n os d'
  | 0, _, _, _, _, _, h => by simp [fromGo] at h
  | r + 1, B, d, d', hi, hB, h => by
    have h64 : (1000 * os.length : Int) ≤ 64000 := by omega
    obtain ⟨k1, k2, _, _, k5, _⟩ := round_spec hg hi (by omega)
    simp only [fromGo] at h
    split at h
    · obtain ⟨m1, m2, m3⟩ := fromGo_spec hg hl r (B + 64000) _ d' (k1.mono (by omega)) (by omega) h
      exact ⟨m1, k2.trans m2, m3⟩
    · rename_i hf
      have hf' : (round n os d).2 = false := by simpa using hf
      obtain ⟨e, hfix⟩ := k5 hf'
      have : (round n os d).1 = d' := by simpa using h
      rw [e] at this
      subst this
      exact ⟨hi.mono (by omega), GeD.refl _ _, hfix⟩

theorem ini_inv {n : Nat} (os : List Order) {low : Nat} (hl : low < n) : Inv n os low 0 ((List.replicate n non).set low 0) ∧ gt ((List.replicate n non).set low 0) low = 0 := by
  have hg : ∀ v, v < n → gt (List.replicate n non) v = non := fun v hv => by simp [gt, hv]
  refine ⟨⟨by simp, fun v hv => ?_, fun v hv hne => ?_⟩, ?_⟩
  · rw [gt_set]; split
    · exact .inr (by omega)
    · exact .inl (hg v hv)
  · rw [gt_set] at hne ⊢
    split
    · rename_i e; obtain ⟨rfl, _⟩ := e; exact .nil _ (rg_cast hl)
    · rename_i e; rw [if_neg e] at hne; exact absurd (hg v hv) hne
  · rw [gt_set, if_pos (by simpa using hl)]

theorem fix_walk {n : Nat} {os : List Order} {low : Int} {d : List Int} (hg : Good n os) (hi : Inv n os low 900000000 d) (hf : Fix n os d) {x y p : Int} (hw : Walk n os x y p) (hne : gt d x.toNat ≠ non) :
    gt d y.toNat ≠ non ∧ gt d x.toNat + p ≤ gt d y.toNat := by
  have ok : ∀ {a b q : Int}, Edge n os a b q → gt d a.toNat ≠ non → gt d b.toNat ≠ non ∧ gt d a.toNat + q ≤ gt d b.toNat := by
    intro a b q e ha
    cases e with
    | zero _ hb =>
      unfold Rg at hb
      have ha' : gt d 0 ≠ non := ha
      have h1 := (hf.zero b.toNat (by omega)).resolve_left ha'
      have h2 := (hi.bd 0 (by omega)).resolve_left ha'
      exact ⟨fun e => by unfold non at e; omega, by have : gt d (0 : Int).toNat = gt d 0 := rfl
                                                    omega⟩
    | self _ hb => exact ⟨ha, by omega⟩
    | ord o ho h1 h2 =>
      unfold Rg at h1 h2
      have h3 := (hf.ord o ho).resolve_left ha
      have h4 := (hi.bd o.low.toNat (by omega)).resolve_left ha
      have h5 := hg o ho
      refine ⟨fun e => ?_, h3⟩
      unfold non at e
      omega
  induction hw with
  | nil hx => exact ⟨hne, by omega⟩
  | snoc hw e ih =>
    obtain ⟨h1, h2⟩ := ih
    obtain ⟨h3, h4⟩ := ok e h1
    exact ⟨h3, by omega⟩

/-- WHAT 'from' COMES TO: the distances of the closed graph. -/
theorem fromF_val {n : Nat} {os : List Order} {g : G} {low : Nat} {d : List Int} (hn : n ≤ 17) (hg : Good n os) (hl : os.length ≤ 64) (hc : Closed n os g) (hlow : low < n) (h : fromF n os low = some d) :
    d.length = n ∧ ∀ v : Nat, v < n → (g low v = none ∧ gt d v = non) ∨ (∃ p, g low v = some p ∧ gt d v = p ∧ p ≠ non) := by
  obtain ⟨hi0, h0⟩ := ini_inv os hlow
  obtain ⟨hi, hge, hf⟩ := fromGo_spec hg hl (n + 1) 0 _ d hi0 (by omega) h
  have hlow0 : 0 ≤ gt d low := by have := hge low hlow; omega
  have hlne : gt d low ≠ non := fun e => by unfold non at e; omega
  refine ⟨hi.len, fun v hv => ?_⟩
  by_cases hne : gt d v = non
  · left
    refine ⟨?_, hne⟩
    cases hgv : g low v with
    | none => rfl
    | some p =>
      obtain ⟨_, _, hw⟩ := hc.walk _ _ _ hgv
      have := (fix_walk hg hi hf hw (by simpa using hlne)).1
      exact absurd hne (by simpa using this)
  · right
    have hw := hi.walk v hv hne
    obtain ⟨p, hp, hle⟩ := hc.most _ _ _ hw
    obtain ⟨_, _, hw'⟩ := hc.walk _ _ _ hp
    have h2 := (fix_walk hg hi hf hw' (by simpa using hlne)).2
    simp only [Int.toNat_natCast] at h2
    have e : gt d v = p := by omega
    exact ⟨p, hp, e, e ▸ hne⟩

theorem cycle_none {n : Nat} {os : List Order} (hn : n ≤ 17) (hg : Good n os) (hl : os.length ≤ 64) {x w : Int} (hw : Walk n os x x w) (hpos : 0 < w) : ∃ low, low < n ∧ fromF n os low = none := by
  have hx : Rg n x := by
    have : ∀ {a b p : Int}, Walk n os a b p → Rg n a := by
      intro a b p h
      induction h with
      | nil hx => exact hx
      | snoc _ _ ih => exact ih
    exact this hw
  refine ⟨x.toNat, by unfold Rg at hx; omega, ?_⟩
  cases h : fromF n os x.toNat with
  | none => rfl
  | some d =>
    have hlow : x.toNat < n := by unfold Rg at hx; omega
    obtain ⟨hi0, h0⟩ := ini_inv os hlow
    obtain ⟨hi, hge, hf⟩ := fromGo_spec hg hl (n + 1) 0 _ d hi0 (by omega) h
    have hlow0 : 0 ≤ gt d x.toNat := by have := hge x.toNat hlow; omega
    have := (fix_walk hg hi hf hw (fun e => by unfold non at e; omega)).2
    omega

/-! ### it ends -/
theorem countP_lt {p q : Nat → Bool} : ∀ (l : List Nat), (∀ x ∈ l, q x = true → p x = true) → (∃ x ∈ l, p x = true ∧ q x = false) → l.countP q < l.countP p
  | [], _, ⟨x, hx, _⟩ => by cases hx
  | a :: l, h, ⟨x, hx, h1, h2⟩ => by
    have hle : ∀ (l : List Nat), (∀ x ∈ l, q x = true → p x = true) → l.countP q ≤ l.countP p := fun l hl => List.countP_mono_left hl
    simp only [List.countP_cons]
    rcases List.mem_cons.1 hx with rfl | hx
    · have := hle l (fun y hy => h y (by simp [hy]))
      simp [h1, h2]
      omega
    · have := countP_lt l (fun y hy => h y (by simp [hy])) ⟨x, hx, h1, h2⟩
      have ha := h a (by simp)
      cases hq : q a <;> cases hp : p a <;> simp_all <;> omega

/-- what is not yet told right -/
def unset (g : G) (low : Int) (d : List Int) (v : Nat) : Bool := match g low v with
  | none => false
  | some p => decide (gt d v = non ∨ gt d v ≠ p)

theorem unset_true {g : G} {low : Int} {d : List Int} {v : Nat} (h : unset g low d v = true) : ∃ p, g low v = some p ∧ (gt d v = non ∨ gt d v ≠ p) := by
  unfold unset at h
  split at h
  · cases h
  · rename_i p hp; exact ⟨p, hp, by simpa using h⟩
theorem unset_false {g : G} {low : Int} {d : List Int} {v : Nat} {p : Int} (hp : g low v = some p) (h : unset g low d v = false) : gt d v ≠ non ∧ gt d v = p := by
  unfold unset at h
  rw [hp] at h
  simp only [decide_eq_false_iff_not] at h
  exact ⟨fun e => h (.inl e), Decidable.byContradiction fun e => h (.inr e)⟩
theorem unset_of {g : G} {low : Int} {d : List Int} {v : Nat} {p : Int} (hp : g low v = some p) (h1 : gt d v ≠ non) (h2 : gt d v = p) : unset g low d v = false := by
  unfold unset
  rw [hp]
  simp only [decide_eq_false_iff_not]
  rintro (h | h)
  · exact h1 h
  · exact h h2

theorem fromGo_ends {n : Nat} {os : List Order} {g : G} {low : Nat} (hg : Good n os) (hl : os.length ≤ 64) (hc : Closed n os g) (hlow : low < n) : ∀ (r : Nat) (B : Int) (d : List Int), Inv n os low B d → B + 64000 * r < 900000000 →
    0 ≤ gt d low → (List.range n).countP (unset g low d) < r → ∃ d', fromGo n os r d = some d'
  | 0, _, _, _, _, _, h => by omega
  | r + 1, B, d, hi, hB, h0, hcount => by
    have h64 : (1000 * os.length : Int) ≤ 64000 := by omega
    obtain ⟨k1, k2, k3, k4, k5, k6⟩ := round_spec hg hi (by omega)
    simp only [fromGo]
    cases hf : (round n os d).2 with
    | false => exact ⟨_, rfl⟩
    | true =>
      simp only [if_true]
      have hle : ∀ (d : List Int) (B : Int), Inv n os low B d → ∀ v, v < n → gt d v ≠ non → ∃ p, g low v = some p ∧ gt d v ≤ p := fun d B hi v hv hne => by
        obtain ⟨p, hp, hle⟩ := hc.most _ _ _ (hi.walk v hv hne)
        exact ⟨p, hp, hle⟩
      have hlne : gt d low ≠ non := fun e => by unfold non at e; omega
      have stays : ∀ v, v < n → ∀ p, g low v = some p → gt d v ≠ non → p ≤ gt (round n os d).1 v → unset g low (round n os d).1 v = false := fun v hv p hp hne h1 => by
        have hne' := ne_non_ge hi (by omega) k2 hv hne
        obtain ⟨q, hq, hle'⟩ := hle _ _ k1 v hv hne'
        rw [hp] at hq
        have : p = q := by simpa using hq
        exact unset_of hp hne' (by omega)
      have grow : ∀ {v : Int} {p : Int}, Walk n os low v p → g low v = some p → unset g low d v.toNat = true → ∃ y, y < n ∧ unset g low d y = true ∧ unset g low (round n os d).1 y = false := by
        intro v p hw
        have gen : ∀ {a v p : Int}, Walk n os a v p → a = low → g low v = some p → unset g low d v.toNat = true → ∃ y, y < n ∧ unset g low d y = true ∧ unset g low (round n os d).1 y = false := by
          intro a v p hw
          induction hw with
          | nil hx =>
            intro ha hp hu
            subst ha
            simp only [Int.toNat_natCast] at hu
            obtain ⟨q, hq, hor⟩ := unset_true hu
            rw [hc.zero _ hx] at hq
            have hq0 : (0 : Int) = q := by simpa using hq
            obtain ⟨q', hq', hle'⟩ := hle d B hi low hlow hlne
            rw [hc.zero _ hx] at hq'
            have hq0' : (0 : Int) = q' := by simpa using hq'
            rcases hor with h | h
            · exact absurd h hlne
            · exact absurd (by omega) h
          | @snoc y z p q hw e ih =>
            intro ha hp hu
            subst ha
            obtain ⟨p', hp', hle1⟩ := hc.most _ _ _ hw
            obtain ⟨_, hry, hw'⟩ := hc.walk _ _ _ hp'
            obtain ⟨t, ht, hle2⟩ := hc.most _ _ _ (Walk.snoc hw' e)
            rw [hp] at ht
            have ht' : p + q = t := by simpa using ht
            have : p' = p := by omega
            subst this
            unfold Rg at hry
            have hyn : y.toNat < n := by omega
            have ey : ((y.toNat : Nat) : Int) = y := by omega
            cases hset : unset g low d y.toNat with
            | true => exact ih rfl hp' hset
            | false =>
              obtain ⟨hne, hval⟩ := unset_false (v := y.toNat) (p := p') (by rw [ey]; exact hp') hset
              obtain ⟨_, hrz, _⟩ := hc.walk _ _ _ hp
              unfold Rg at hrz
              have hzn : z.toNat < n := by omega
              have ez : ((z.toNat : Nat) : Int) = z := by omega
              have hge : gt d y.toNat + q ≤ gt (round n os d).1 z.toNat := by
                cases e with
                | zero _ _ => have := k3 hne z.toNat hzn
                              have e0 : gt d (0 : Int).toNat = gt d 0 := rfl
                              omega
                | self _ _ => have := k2 y.toNat hyn; omega
                | ord o ho _ _ => exact k4 o ho hne
              refine ⟨z.toNat, hzn, hu, ?_⟩
              have hb := (hi.bd y.toNat hyn).resolve_left hne
              have hne' : gt (round n os d).1 z.toNat ≠ non := fun e' => by
                have hq : -1000 ≤ q := by
                  cases e with
                  | zero _ _ => omega
                  | self _ _ => omega
                  | ord o ho _ _ => exact (hg o ho).2.2.1
                unfold non at e'
                omega
              obtain ⟨u, hu', hle'⟩ := hle _ _ k1 z.toNat hzn hne'
              rw [ez, hp] at hu'
              have : p' + q = u := by simpa using hu'
              exact unset_of (p := p' + q) (by rw [ez]; exact hp) hne' (by omega)
        exact gen hw rfl
      refine fromGo_ends hg hl hc hlow r (B + 64000) _ (k1.mono (by omega)) (by omega) (by have := k2 low hlow; omega) ?_
      refine Nat.lt_of_lt_of_le (countP_lt (p := unset g low d) (List.range n) (fun v hv hu => ?_) ?_) (by omega)
      · have hv := List.mem_range.1 hv
        cases hd : unset g low d v with
        | true => rfl
        | false =>
          obtain ⟨p, hp, _⟩ := unset_true hu
          obtain ⟨h1, h2⟩ := unset_false hp hd
          have := stays v hv p hp h1 (by have := k2 v hv; omega)
          rw [this] at hu
          cases hu
      · obtain ⟨v0, hv0, hlt⟩ := k6 hf
        have hne0 : gt (round n os d).1 v0 ≠ non := by
          rcases hi.bd v0 hv0 with h | h
          · intro e; omega
          · intro e; unfold non at e; omega
        obtain ⟨p, hp, hle'⟩ := hle _ _ k1 v0 hv0 hne0
        have hu : unset g low d v0 = true := by
          cases hd : unset g low d v0 with
          | true => rfl
          | false => obtain ⟨_, h2⟩ := unset_false hp hd; omega
        obtain ⟨_, _, hw⟩ := hc.walk _ _ _ hp
        obtain ⟨y, hy, h1, h2⟩ := grow hw hp (by simpa using hu)
        exact ⟨y, List.mem_range.2 hy, h1, h2⟩

theorem fromF_ends {n : Nat} {os : List Order} {g : G} {low : Nat} (hn : n ≤ 17) (hg : Good n os) (hl : os.length ≤ 64) (hc : Closed n os g) (hlow : low < n) : ∃ d, fromF n os low = some d := by
  obtain ⟨hi0, h0⟩ := ini_inv os hlow
  refine fromGo_ends hg hl hc hlow (n + 1) 0 _ hi0 (by omega) (by omega) ?_
  have := List.countP_le_length (p := unset g low ((List.replicate n non).set low 0)) (l := List.range n)
  simp only [List.length_range] at this
  omega

theorem good_of {vars : Int} {os : List Order} (h0 : 0 ≤ vars) (h : os.any (badOrd vars) = false) : Good (vars.toNat + 1) os := fun o ho => by
  have := List.any_eq_false.1 h o ho
  have hb : ¬ (o.low < 0 ∨ vars < o.low ∨ o.high < 0 ∨ vars < o.high ∨ o.add < -1000 ∨ 1000 < o.add) := by simpa [badOrd] using this
  unfold Rg
  omega

/-- THE TWO CHECKS ARE ONE. -/
theorem check_eq (vars : Int) (os : List Order) : checkR vars os = match closedF vars os with
    | .error e => e
    | .ok _ => 0 := by
  cases h : closedF vars os with
  | ok g =>
    obtain ⟨hc, h0, h16, hl, hb⟩ := closedF_ok h
    have hg := good_of h0 hb
    unfold checkR
    rw [if_neg (by omega), if_neg (by omega), hb]
    simp only [Bool.false_eq_true, if_false]
    rw [if_pos]
    rw [List.all_eq_true]
    intro v hv
    obtain ⟨d, hd⟩ := fromF_ends (by omega) hg hl hc (List.mem_range.1 hv)
    simp [hd]
  | error e =>
    rcases closedF_err h with ⟨h1, rfl⟩ | ⟨h1, h2, rfl⟩ | ⟨h1, h2, h3, rfl⟩ | ⟨h1, h2, h3, rfl, x, w, hw, hpos⟩
    · unfold checkR; rw [if_pos h1]
    · unfold checkR; rw [if_neg h1, if_pos h2]
    · unfold checkR; rw [if_neg h1, if_neg h2, if_pos h3]
    · have hg := good_of (by omega) h3
      obtain ⟨low, hlow, hnone⟩ := cycle_none (by omega) hg (by omega) hw hpos
      unfold checkR
      rw [if_neg h1, if_neg h2, h3]
      simp only [Bool.false_eq_true, if_false]
      rw [if_neg]
      rw [List.all_eq_true]
      intro hall
      have := hall low (List.mem_range.2 hlow)
      rw [hnone] at this
      cases this
end Lv
