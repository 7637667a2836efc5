/-
  Code, in plain Lean: instructions, which code may be; how they read in memory.
-/
import Derived.Test.YtjogpbiilokldaaWxP
set_option linter.unusedVariables false
namespace Cd
open Go Go.Wx

structure Ins where
  op : Int
  a : Int
  b : Int
  to : List Int
structure Shp where
  params : Int
  kept : List (List Bool)
structure Fn where
  caps : Int
  code : List Ins
structure Cod where
  nat : Int
  shapes : List Shp
  funs : List Fn
  bodies : List (List Ins)
  main : List Ins

/-! ### how they read -/
def rIns : Rd Ins where
  sz := 4
  den C cs x := ∃ a cap, cs = [.int .i64 x.op, .int .i64 x.a, .int .i64 x.b, .slice a x.to.length cap] ∧ Sl rInt C a x.to ∧ I64 x.op ∧ I64 x.a ∧ I64 x.b
  len := by rintro C cs x ⟨a, cap, rfl, _⟩; rfl
  mono := by rintro C C' cs x hc ⟨a, cap, rfl, h, h'⟩; exact ⟨a, cap, rfl, h.mono hc, h'⟩
  one := by rintro C cs x ⟨a, cap, rfl, _⟩ u hu; simp at hu; rcases hu with rfl | rfl | rfl | rfl <;> rfl
def rShp : Rd Shp where
  sz := 2
  den C cs x := ∃ a cap, cs = [.int .i64 x.params, .slice a x.kept.length cap] ∧ Sl (rSl rBool) C a x.kept ∧ I64 x.params
  len := by rintro C cs x ⟨a, cap, rfl, _⟩; rfl
  mono := by rintro C C' cs x hc ⟨a, cap, rfl, h, h'⟩; exact ⟨a, cap, rfl, h.mono hc, h'⟩
  one := by rintro C cs x ⟨a, cap, rfl, _⟩ u hu; simp at hu; rcases hu with rfl | rfl <;> rfl
def rFn : Rd Fn where
  sz := 2
  den C cs x := ∃ a cap, cs = [.int .i64 x.caps, .slice a x.code.length cap] ∧ Sl rIns C a x.code ∧ I64 x.caps
  len := by rintro C cs x ⟨a, cap, rfl, _⟩; rfl
  mono := by rintro C C' cs x hc ⟨a, cap, rfl, h, h'⟩; exact ⟨a, cap, rfl, h.mono hc, h'⟩
  one := by rintro C cs x ⟨a, cap, rfl, _⟩ u hu; simp at hu; rcases hu with rfl | rfl <;> rfl
def rCod : Rd Cod where
  sz := 5
  den C cs x := ∃ a1 c1 a2 c2 a3 c3 a4 c4, cs = [.int .i64 x.nat, .slice a1 x.shapes.length c1, .slice a2 x.funs.length c2, .slice a3 x.bodies.length c3, .slice a4 x.main.length c4] ∧
    Sl rShp C a1 x.shapes ∧ Sl rFn C a2 x.funs ∧ Sl (rSl rIns) C a3 x.bodies ∧ Sl rIns C a4 x.main ∧ I64 x.nat
  len := by rintro C cs x ⟨a1, c1, a2, c2, a3, c3, a4, c4, rfl, _⟩; rfl
  mono := by
    rintro C C' cs x hc ⟨a1, c1, a2, c2, a3, c3, a4, c4, rfl, h1, h2, h3, h4, h'⟩
    exact ⟨a1, c1, a2, c2, a3, c3, a4, c4, rfl, h1.mono hc, h2.mono hc, h3.mono hc, h4.mono hc, h'⟩
  one := by rintro C cs x ⟨a1, c1, a2, c2, a3, c3, a4, c4, rfl, _⟩ u hu; simp at hu; rcases hu with rfl | rfl | rfl | rfl | rfl <;> rfl

section
variable {C : Mem} {a : Option Addr} {i : Nat}
theorem sl_ins {l : List Ins} (h : Sl rIns C a l) {x : Ins} (hi : l[i]? = some x) : ∃ b o, a = some ⟨b, o, none⟩ ∧ ∃ at' cap, Sl rInt C at' x.to ∧ I64 x.op ∧ I64 x.a ∧ I64 x.b ∧
    ∀ j v, [Value.int .i64 x.op, .int .i64 x.a, .int .i64 x.b, .slice at' x.to.length cap][j]? = some v → C b (o + i * 4 + j) v := by
  obtain ⟨b, o, ha, hc⟩ := h.at (get_lt hi)
  obtain ⟨cs, ⟨a', cap, rfl, h1, h2, h3, h4⟩, h5⟩ := hc i x hi
  exact ⟨b, o, ha, a', cap, h1, h2, h3, h4, h5⟩
theorem sl_shp {l : List Shp} (h : Sl rShp C a l) {x : Shp} (hi : l[i]? = some x) : ∃ b o, a = some ⟨b, o, none⟩ ∧ ∃ at' cap, Sl (rSl rBool) C at' x.kept ∧ I64 x.params ∧
    C b (o + i * 2) (.int .i64 x.params) ∧ C b (o + i * 2 + 1) (.slice at' x.kept.length cap) := by
  obtain ⟨b, o, ha, hc⟩ := h.at (get_lt hi)
  obtain ⟨cs, ⟨a', cap, rfl, h1, h2⟩, h5⟩ := hc i x hi
  exact ⟨b, o, ha, a', cap, h1, h2, h5 0 _ rfl, h5 1 _ rfl⟩
theorem sl_fn {l : List Fn} (h : Sl rFn C a l) {x : Fn} (hi : l[i]? = some x) : ∃ b o, a = some ⟨b, o, none⟩ ∧ ∃ at' cap, Sl rIns C at' x.code ∧ I64 x.caps ∧
    C b (o + i * 2) (.int .i64 x.caps) ∧ C b (o + i * 2 + 1) (.slice at' x.code.length cap) := by
  obtain ⟨b, o, ha, hc⟩ := h.at (get_lt hi)
  obtain ⟨cs, ⟨a', cap, rfl, h1, h2⟩, h5⟩ := hc i x hi
  exact ⟨b, o, ha, a', cap, h1, h2, h5 0 _ rfl, h5 1 _ rfl⟩
end

/-! ### which code may be -/
def inM (n low high : Int) : Bool := decide (low ≤ n) && decide (n ≤ high)
def Ins.zero (n : Ins) : Bool := decide (n.a = 0) && decide (n.b = 0)

def famM (c : Cod) (e : Int) : Bool := inM e 0 (c.shapes.length - 1) && decide (((c.bodies[e.toNat]?).getD []).length = 0)
def keptM (c : Cod) (e : Int) : List (List Bool) := ((c.shapes[e.toNat]?).map Shp.kept).getD []
def ctorM (c : Cod) (a args : Int) : Bool :=
  decide (0 ≤ a) && (famM c (a / 16) && (match (keptM c (a / 16))[(a % 16).toNat]? with
    | some k => decide ((k.length : Int) = args)
    | none => false))

/-- how much an instruction pops that goes on to the next one alone -/
def plainM (c : Cod) (n : Ins) (h : Int) : Option Int :=
  if n.op = 1 then (if n.zero then some 0 else none)
  else if n.op = 2 then (if inM n.a 0 1048576 && decide (n.b = 0) then some 0 else none)
  else if n.op = 3 then (if inM n.a 0 (h - 1) && decide (n.b = 0) then some 0 else none)
  else if n.op = 4 then (if inM n.a 0 (c.funs.length - 1) && decide (some n.b = (c.funs[n.a.toNat]?).map Fn.caps) then some n.b else none)
  else if n.op = 5 then (if n.zero then some 2 else none)
  else if n.op = 7 then (if inM n.a 0 (c.bodies.length - 1) && decide (0 < ((c.bodies[n.a.toNat]?).getD []).length) && decide (n.b = 0) then some 0 else none)
  else if n.op = 8 then (if ctorM c n.a n.b then some n.b else none)
  else if n.op = 10 then (if n.zero then some 1 else none)
  else if n.op = 12 then (if inM n.a 1 3 && decide (n.b = 0) then some 2 else none)
  else if n.op = 14 then (if decide (1 ≤ n.a) && decide (n.b = 0) then some (min n.a h + 1) else none)
  else none

def armsL : List (List Bool) → List Int → Int → Option (List (Int × Int))
  | [], _, _ => some []
  | k :: r, t :: m :: to, h => if m = k.length then (armsL r to h).map ((t, h - 1 + k.length) :: ·) else none
  | _ :: _, _, _ => none

def armsM (c : Cod) (n : Ins) (h : Int) : Option (List (Int × Int)) :=
  if famM c n.a && decide (n.a ≠ c.nat) && decide (1 ≤ n.b) && decide (n.b = (keptM c n.a).length) && decide ((n.to.length : Int) = 2 * n.b) then armsL (keptM c n.a) n.to h else none

/-- where an instruction goes on, and at which heights -/
def nextM (c : Cod) (i : Int) (n : Ins) (h fl : Int) : Option (List (Int × Int)) :=
  if n.op = 6 then (if n.zero && decide (n.to.length = 0) && decide (h - fl = 1) then some [] else none)
  else if n.op = 13 then (if n.zero && decide (n.to.length = 1) then some [(n.to.getD 0 0, h)] else none)
  else if n.op = 11 then (if n.zero && decide (n.to.length = 1) && decide (1 ≤ h - fl) then some [(n.to.getD 0 0, h - 1), (i + 1, h)] else none)
  else if n.op = 9 then (if 1 ≤ h - fl then armsM c n h else none)
  else match plainM c n h with
    | some p => if n.to.length = 0 ∧ p ≤ h - fl then some [(i + 1, h - p + 1)] else none
    | none => none

/-- one way on: heights that are not met are -1 -/
def goesM (len : Nat) (i : Int) (t : Int × Int) (s : List Int × Int) : Option (List Int × Int) :=
  if t.1 ≤ i ∨ (len : Int) ≤ t.1 then none
  else if s.1.getD t.1.toNat 0 = -1 then some (s.1.set t.1.toNat t.2, max s.2 t.2)
  else if s.1.getD t.1.toNat 0 = t.2 then some (s.1, max s.2 t.2)
  else none

def goM (len : Nat) (i : Int) : List (Int × Int) → List Int × Int → Option (List Int × Int)
  | [], s => some s
  | t :: r, s => (goesM len i t s).bind (goM len i r)

def oneM (c : Cod) (len : Nat) (fl : Int) (i : Nat) (n : Ins) (s : List Int × Int) : Option (List Int × Int) :=
  (nextM c i n (s.1.getD i 0) fl).bind fun l => goM len i l s

def blkM (c : Cod) (len : Nat) (fl : Int) : Nat → List Ins → List Int × Int → Option Int
  | _, [], s => some s.2
  | i, n :: r, s => if s.1.getD i 0 = -1 then none else (oneM c len fl i n s).bind (blkM c len fl (i + 1) r)

def blockM (c : Cod) (code : List Ins) (fl : Int) : Option Int :=
  if code.length = 0 then none else blkM c code.length fl 0 code (fl :: List.replicate (code.length - 1) (-1), fl)

/-! ### heights keep small -/
def Hb (fl : Int) (B : Int) (s : List Int × Int) : Prop := (∀ x ∈ s.1, x = -1 ∨ fl ≤ x ∧ x ≤ B) ∧ fl ≤ s.2 ∧ s.2 ≤ B

theorem getD_mem0 {l : List Int} {i : Nat} (h : i < l.length) : l.getD i 0 ∈ l := by
  rw [List.getD_eq_getElem?_getD, List.getElem?_eq_getElem h]
  simp
theorem goesM_len {len : Nat} {i : Int} {t : Int × Int} {s s' : List Int × Int} (h : goesM len i t s = some s') : s'.1.length = s.1.length := by
  unfold goesM at h
  split at h
  · cases h
  split at h
  · obtain rfl := Option.some.inj h; simp
  split at h
  · obtain rfl := Option.some.inj h; rfl
  · cases h
theorem goesM_hb {fl B : Int} {len : Nat} {i : Int} {t : Int × Int} {s s' : List Int × Int} (h : goesM len i t s = some s') (hs : Hb fl B s) (ht : fl ≤ t.2 ∧ t.2 ≤ B) : Hb fl B s' := by
  obtain ⟨h1, h2, h3⟩ := hs
  unfold goesM at h
  split at h
  · cases h
  split at h
  · obtain rfl := Option.some.inj h
    refine ⟨fun x hx => ?_, by simp only; omega, by simp only; omega⟩
    rcases List.mem_or_eq_of_mem_set hx with hx | rfl
    · exact h1 x hx
    · exact .inr ht
  split at h
  · obtain rfl := Option.some.inj h
    exact ⟨h1, by simp only; omega, by simp only; omega⟩
  · cases h
theorem goM_hb {fl B : Int} {len : Nat} {i : Int} : ∀ {l : List (Int × Int)} {s s' : List Int × Int}, goM len i l s = some s' → Hb fl B s → (∀ t ∈ l, fl ≤ t.2 ∧ t.2 ≤ B) → Hb fl B s' ∧ s'.1.length = s.1.length
  | [], s, s', h, hs, _ => by obtain rfl := Option.some.inj h; exact ⟨hs, rfl⟩
  | t :: r, s, s', h, hs, ht => by
    simp only [goM] at h
    cases h1 : goesM len i t s with
    | none => rw [h1] at h; cases h
    | some s1 =>
      rw [h1] at h
      obtain ⟨h2, h3⟩ := goM_hb (l := r) h (goesM_hb h1 hs (ht t (by simp))) fun t ht' => ht t (by simp [ht'])
      exact ⟨h2, h3.trans (goesM_len h1)⟩
theorem Hb.mono {fl B B' : Int} {s : List Int × Int} (h : Hb fl B s) (hB : B ≤ B') : Hb fl B' s :=
  ⟨fun x hx => by rcases h.1 x hx with h | h <;> omega, h.2.1, by have := h.2.2; omega⟩
theorem armsL_bd {h fl : Int} (hf : 1 ≤ h - fl) {M : Int} : ∀ {ks : List (List Bool)} {to : List Int} {l : List (Int × Int)}, armsL ks to h = some l → (∀ k ∈ ks, (k.length : Int) ≤ M) → ∀ t ∈ l, fl ≤ t.2 ∧ t.2 ≤ h + M
  | [], to, l, e, _, t, ht => by
    simp only [armsL] at e
    obtain rfl := Option.some.inj e; simp at ht
  | k :: r, [], l, e, _, t, ht => by simp [armsL] at e
  | k :: r, [_], l, e, _, t, ht => by simp [armsL] at e
  | k :: r, x :: m :: to, l, e, hM, t, ht => by
    simp only [armsL] at e
    split at e
    · cases h1 : armsL r to h with
      | none => rw [h1] at e; cases e
      | some l' =>
        rw [h1] at e
        obtain rfl := Option.some.inj e
        rcases List.mem_cons.1 ht with rfl | ht
        · have := hM k (by simp)
          simp only
          omega
        · exact armsL_bd hf h1 (fun k hk => hM k (by simp [hk])) t ht
    · cases e

/-- what is asked of code, for its heights to keep small -/
structure CodOk (c : Cod) : Prop where
  caps : ∀ f ∈ c.funs, 0 ≤ f.caps ∧ f.caps ≤ 255
  len : c.bodies.length = c.shapes.length
  kept : ∀ s ∈ c.shapes, ∀ k ∈ s.kept, k.length ≤ 1099511627776

theorem plainM_pos {c : Cod} (hc : CodOk c) {n : Ins} {h p : Int} (hh : 0 ≤ h) (e : plainM c n h = some p) : 0 ≤ p := by
  unfold plainM at e
  by_cases h1 : n.op = 1
  · rw [if_pos h1] at e
    split at e
    · obtain rfl := Option.some.inj e; omega
    · cases e
  rw [if_neg h1] at e
  by_cases h2 : n.op = 2
  · rw [if_pos h2] at e
    split at e
    · obtain rfl := Option.some.inj e; omega
    · cases e
  rw [if_neg h2] at e
  by_cases h3 : n.op = 3
  · rw [if_pos h3] at e
    split at e
    · obtain rfl := Option.some.inj e; omega
    · cases e
  rw [if_neg h3] at e
  by_cases h4 : n.op = 4
  · rw [if_pos h4] at e
    split at e
    · rename_i hb
      obtain rfl := Option.some.inj e
      simp only [Bool.and_eq_true, decide_eq_true_eq] at hb
      cases hf : c.funs[n.a.toNat]? with
      | none => rw [hf] at hb; simp at hb
      | some f =>
        rw [hf] at hb
        have := hc.caps f (List.mem_of_getElem? hf)
        have h2 := hb.2
        simp at h2
        omega
    · cases e
  rw [if_neg h4] at e
  by_cases h5 : n.op = 5
  · rw [if_pos h5] at e
    split at e
    · obtain rfl := Option.some.inj e; omega
    · cases e
  rw [if_neg h5] at e
  by_cases h7 : n.op = 7
  · rw [if_pos h7] at e
    split at e
    · obtain rfl := Option.some.inj e; omega
    · cases e
  rw [if_neg h7] at e
  by_cases h8 : n.op = 8
  · rw [if_pos h8] at e
    split at e
    · rename_i hb
      obtain rfl := Option.some.inj e
      simp only [ctorM, Bool.and_eq_true, decide_eq_true_eq] at hb
      have h2 := hb.2.2
      split at h2
      · simp at h2; omega
      · cases h2
    · cases e
  rw [if_neg h8] at e
  by_cases h10 : n.op = 10
  · rw [if_pos h10] at e
    split at e
    · obtain rfl := Option.some.inj e; omega
    · cases e
  rw [if_neg h10] at e
  by_cases h12 : n.op = 12
  · rw [if_pos h12] at e
    split at e
    · obtain rfl := Option.some.inj e; omega
    · cases e
  rw [if_neg h12] at e
  by_cases h14 : n.op = 14
  · rw [if_pos h14] at e
    split at e
    · rename_i hb
      obtain rfl := Option.some.inj e
      simp only [Bool.and_eq_true, decide_eq_true_eq] at hb
      omega
    · cases e
  rw [if_neg h14] at e
  cases e

theorem nextM_bd {c : Cod} (hc : CodOk c) {i : Int} {n : Ins} {h fl : Int} (hh : fl ≤ h) (hf : 0 ≤ fl) {l : List (Int × Int)} (e : nextM c i n h fl = some l) : ∀ t ∈ l, fl ≤ t.2 ∧ t.2 ≤ h + 1099511627776 := by
  unfold nextM at e
  split at e
  · split at e
    · obtain rfl := Option.some.inj e; simp
    · cases e
  split at e
  · split at e
    · obtain rfl := Option.some.inj e
      intro t ht
      simp at ht
      subst ht
      simp only
      omega
    · cases e
  split at e
  · split at e
    · rename_i hb
      simp only [Bool.and_eq_true, decide_eq_true_eq] at hb
      obtain rfl := Option.some.inj e
      intro t ht
      simp at ht
      rcases ht with rfl | rfl <;> simp only <;> omega
    · cases e
  split at e
  · split at e
    · rename_i hb
      unfold armsM at e
      split at e
      · refine armsL_bd hb e fun k hk => ?_
        unfold keptM at hk
        cases hs : c.shapes[n.a.toNat]? with
        | none => rw [hs] at hk; simp at hk
        | some s =>
          rw [hs] at hk
          have := hc.kept s (List.mem_of_getElem? hs) k (by simpa using hk)
          omega
      · cases e
    · cases e
  split at e
  · rename_i p hp
    split at e
    · have := plainM_pos hc (by omega) hp
      obtain rfl := Option.some.inj e
      intro t ht
      simp at ht
      subst ht
      simp only
      omega
    · cases e
  · cases e

end Cd
