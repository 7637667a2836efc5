/-
  Code, in plain Lean: what is written is read as it was; a beginning of it is none.
-/
import Derived.Test.YtjogpbiilokldaaCdR
set_option linter.unusedVariables false
set_option linter.unusedSimpArgs false
namespace Cd
open Go Go.Wx

/-- how a thing is read back: from its bytes with more behind; and what comes of a beginning of them -/
structure Reads {α : Type} (one : RS → α × RS) (enc : α → List Nat) (x : α) : Prop where
  back : ∀ r, one (enc x ++ r, 0) = (x, (r, 0))
  cut : ∀ k, k < (enc x).length → (one ((enc x).take k, 0)).2.2 = 4
/-- once there is an error, nothing more is read -/
def Dead {α : Type} (one : RS → α × RS) : Prop := ∀ s : RS, s.2 ≠ 0 → (one s).2.2 = s.2

theorem nx_form {most : Nat} (hm : most ≤ 1048576) : ∀ (n i acc : Nat) (r : List Nat), acc + n * 128 ^ i ≤ most → (0 < i → 0 < n) → nx most i acc (formM n ++ r) = .ok (acc + n * 128 ^ i, r) := by
  intro n
  induction n using Nat.strongRecOn with
  | _ n ih =>
    intro i acc r hle hpos
    have hp : 0 < 128 ^ i := Nat.pow_pos (by omega)
    by_cases hs : n < 128
    · rw [formM_small hs]
      simp only [List.cons_append, List.nil_append, nx]
      rw [Nat.mod_eq_of_lt hs, if_neg (by rintro (h | ⟨h1, h2⟩) <;> first | omega | (have := hpos h1; omega)), if_pos hs]
    · rw [formM_big hs]
      simp only [List.cons_append, nx]
      have e1 : (n % 128 + 128) % 128 = n % 128 := by omega
      have e2 : acc + n % 128 * 128 ^ i + n / 128 * 128 ^ (i + 1) = acc + n * 128 ^ i := by
        rw [Nat.pow_succ, Nat.mul_comm (128 ^ i) 128, ← Nat.mul_assoc, Nat.add_assoc, ← Nat.add_mul]
        congr 2
        omega
      have h1 : 1 ≤ n / 128 := by omega
      have h2 : 128 ^ (i + 1) ≤ n / 128 * 128 ^ (i + 1) := Nat.le_mul_of_pos_left _ h1
      rw [e1, if_neg (by rintro (h | ⟨h1, h2⟩) <;> omega), if_neg (by omega), if_neg (by omega), ih (n / 128) (by omega) (i + 1) _ r (by omega) (by omega), e2]

theorem nx_cut {most : Nat} (hm : most ≤ 1048576) : ∀ (n i acc k : Nat), acc + n * 128 ^ i ≤ most → (0 < i → 0 < n) → k < (formM n).length → nx most i acc ((formM n).take k) = .error 4 := by
  intro n
  induction n using Nat.strongRecOn with
  | _ n ih =>
    intro i acc k hle hpos hk
    match k with
    | 0 => rfl
    | k + 1 =>
    have hp : 0 < 128 ^ i := Nat.pow_pos (by omega)
    by_cases hs : n < 128
    · rw [formM_small hs] at hk
      simp at hk
    · rw [formM_big hs] at hk ⊢
      simp only [List.take_succ_cons, nx]
      have e1 : (n % 128 + 128) % 128 = n % 128 := by omega
      have e2 : acc + n % 128 * 128 ^ i + n / 128 * 128 ^ (i + 1) = acc + n * 128 ^ i := by
        rw [Nat.pow_succ, Nat.mul_comm (128 ^ i) 128, ← Nat.mul_assoc, Nat.add_assoc, ← Nat.add_mul]
        congr 2
        omega
      have h1 : 1 ≤ n / 128 := by omega
      have h2 : 128 ^ (i + 1) ≤ n / 128 * 128 ^ (i + 1) := Nat.le_mul_of_pos_left _ h1
      rw [e1, if_neg (by rintro (h | ⟨h1, h2⟩) <;> omega), if_neg (by omega), if_neg (by omega)]
      exact ih (n / 128) (by omega) (i + 1) _ k (by omega) (by omega) (by simpa using hk)

theorem num_back {most n : Nat} (hm : most ≤ 1048576) (hn : n ≤ most) (r : List Nat) : numM most (formM n ++ r, 0) = (n, (r, 0)) := by
  refine num_ok rfl ?_
  have := nx_form hm n 0 0 r (by simpa using hn) (by omega)
  simpa using this
theorem num_cut {most n k : Nat} (hm : most ≤ 1048576) (hn : n ≤ most) (hk : k < (formM n).length) : (numM most ((formM n).take k, 0)).2.2 = 4 := by
  rw [num_err rfl (nx_cut hm n 0 0 k (by simpa using hn) (by omega) hk)]
theorem num_deadly {most : Nat} {s : RS} (h : s.2 ≠ 0) : (numM most s).2.2 = s.2 ∧ (numM most s).1 = 0 := by
  rw [num_dead h]
  exact ⟨rfl, rfl⟩
theorem form_len_pos (n : Nat) : 0 < (formM n).length := by
  by_cases h : n < 128
  · rw [formM_small h]; simp
  · rw [formM_big h]; simp

theorem manyM_dead {α : Type} {one : RS → α × RS} : Dead (manyM one) := fun s h => by
  unfold manyM
  have := num_deadly (most := 1048576) h
  rw [this.2, manyL]
  exact this.1

section
variable {α : Type} {one : RS → α × RS} {enc : α → List Nat}
theorem manyL_back : ∀ (l acc : List α) (r : List Nat), (∀ x ∈ l, Reads one enc x) → manyL one l.length acc (l.flatMap enc ++ r, 0) = (acc ++ l, (r, 0))
  | [], acc, r, _ => by simp [manyL]
  | x :: l, acc, r, h => by
    have hx := h x (by simp)
    simp only [List.length_cons, manyL, List.flatMap_cons, List.append_assoc, hx.back]
    rw [if_neg (by simp), manyL_back l (acc ++ [x]) r fun y hy => h y (by simp [hy])]
    simp
theorem manyL_cut : ∀ (l acc : List α) (k : Nat), (∀ x ∈ l, Reads one enc x) → k < (l.flatMap enc).length → (manyL one l.length acc ((l.flatMap enc).take k, 0)).2.2 = 4
  | [], acc, k, _, hk => by simp at hk
  | x :: l, acc, k, h, hk => by
    have hx := h x (by simp)
    simp only [List.length_cons, manyL, List.flatMap_cons]
    by_cases hlt : k < (enc x).length
    · rw [List.take_append_of_le_length (by omega)]
      have := hx.cut k hlt
      rw [if_pos (by rw [this]; decide)]
      exact this
    · obtain ⟨j, rfl⟩ : ∃ j, k = (enc x).length + j := ⟨k - (enc x).length, by omega⟩
      rw [List.take_length_add_append, hx.back, if_neg (by simp)]
      exact manyL_cut l _ j (fun y hy => h y (by simp [hy])) (by simp only [List.flatMap_cons, List.length_append] at hk; omega)

theorem many_reads {l : List α} (hl : l.length ≤ 1048576) (h : ∀ x ∈ l, Reads one enc x) : Reads (manyM one) (fun l => numsB [(l.length : Int)] ++ l.flatMap enc) l := by
  have e : numsB [(l.length : Int)] = formM l.length := by simp [numsB]
  refine ⟨fun r => ?_, fun k hk => ?_⟩
  · unfold manyM
    rw [e, List.append_assoc, num_back (by omega) hl, manyL_back l [] r h]
    simp
  · unfold manyM
    simp only [e] at hk ⊢
    by_cases hlt : k < (formM l.length).length
    · rw [List.take_append_of_le_length (by omega)]
      have h4 := num_cut (Nat.le_refl _) hl hlt
      have h0 : (numM 1048576 ((formM l.length).take k, 0)).1 = 0 := by
        rw [num_err rfl (nx_cut (Nat.le_refl _) l.length 0 0 k (by simpa using hl) (by omega) hlt)]
      rw [h0, manyL]
      exact h4
    · obtain ⟨j, rfl⟩ : ∃ j, k = (formM l.length).length + j := ⟨k - (formM l.length).length, by omega⟩
      rw [List.take_length_add_append, num_back (by omega) hl]
      exact manyL_cut l [] j h (by simp only [List.length_append] at hk; omega)
end

/-! ### two things one behind the other -/
theorem seq_back {α β : Type} {p : RS → α × RS} {q : RS → β × RS} {ep : α → List Nat} {eq' : β → List Nat} {x : α} {y : β} (hp : Reads p ep x) (hq : Reads q eq' y) (r : List Nat) : p (ep x ++ eq' y ++ r, 0) = (x, (eq' y ++ r, 0)) ∧ q (eq' y ++ r, 0) = (y, (r, 0)) :=
  ⟨by rw [List.append_assoc, hp.back], hq.back r⟩

theorem num_reads {most : Nat} {x : Int} (hm : most ≤ 1048576) (h0 : 0 ≤ x) (h : x ≤ most) : Reads (fun s => (((numM most s).1 : Int), (numM most s).2)) (fun x => numsB [x]) x := by
  have e : numsB [x] = formM x.toNat := by simp [numsB]
  refine ⟨fun r => ?_, fun k hk => ?_⟩
  · simp only [e]
    rw [num_back hm (by omega)]
    simp only
    rw [Int.toNat_of_nonneg h0]
  · simp only [e] at hk ⊢
    exact num_cut hm (by omega) hk
theorem num_dead' {most : Nat} : Dead (fun s => (((numM most s).1 : Int), (numM most s).2)) := fun s h => (num_deadly h).1

/-- a pair, read one behind the other -/
theorem pair_reads {α β γ : Type} {p : RS → α × RS} {q : RS → β × RS} {ep : α → List Nat} {eq' : β → List Nat} {mk : α → β → γ} {one : RS → γ × RS} {enc : γ → List Nat} {x : α} {y : β} (hp : Reads p ep x) (hq : Reads q eq' y) (hd : Dead q)
    (ho : ∀ s, one s = (mk (p s).1 (q (p s).2).1, (q (p s).2).2)) (he : enc (mk x y) = ep x ++ eq' y) : Reads one enc (mk x y) := by
  refine ⟨fun r => ?_, fun k hk => ?_⟩
  · rw [ho, he, List.append_assoc, hp.back, hq.back]
  · rw [he] at hk ⊢
    rw [ho]
    by_cases hlt : k < (ep x).length
    · rw [List.take_append_of_le_length (by omega)]
      have := hp.cut k hlt
      simp only
      rw [hd _ (by rw [this]; decide), this]
    · obtain ⟨j, rfl⟩ : ∃ j, k = (ep x).length + j := ⟨k - (ep x).length, by omega⟩
      rw [List.take_length_add_append, hp.back]
      exact hq.cut j (by simp at hk; omega)
theorem pair_dead {α β γ : Type} {p : RS → α × RS} {q : RS → β × RS} {mk : α → β → γ} {one : RS → γ × RS} (hp : Dead p) (hd : Dead q) (ho : ∀ s, one s = (mk (p s).1 (q (p s).2).1, (q (p s).2).2)) : Dead one := fun s h => by
  rw [ho]
  simp only
  have := hp s h
  rw [hd _ (by rw [this]; exact h), this]

/-! ### and back -/
def Byt (l : List Nat) : Prop := ∀ y ∈ l, y < 256
def Inv {α : Type} (one : RS → α × RS) (enc : α → List Nat) : Prop := ∀ (s : RS) (r : List Nat), s.2 = 0 → Byt s.1 → (one s).2 = (r, 0) → s.1 = enc (one s).1 ++ r
theorem Byt.right {a b : List Nat} (h : Byt (a ++ b)) : Byt b := fun y hy => h y (by simp [hy])

theorem nx_inv {most : Nat} : ∀ (l : List Nat) (i acc m : Nat) (r : List Nat), Byt l → nx most i acc l = .ok (m, r) → ∃ n, m = acc + n * 128 ^ i ∧ l = formM n ++ r ∧ (0 < i → 0 < n)
  | [], _, _, _, _, _, h => by simp [nx] at h
  | c :: l, i, acc, m, r, hb, h => by
    simp only [nx] at h
    split at h
    · cases h
    rename_i g1
    split at h
    · rename_i hc
      injection h with h
      injection h with h1 h2
      subst h2
      refine ⟨c, ?_, ?_, fun hi => ?_⟩
      · rw [← h1, Nat.mod_eq_of_lt hc]
      · rw [formM_small hc]; rfl
      · rcases Nat.eq_zero_or_pos c with h0 | h0
        · exact absurd (.inr ⟨hi, h0⟩) g1
        · exact h0
    rename_i hc
    split at h
    · cases h
    obtain ⟨n, h1, h2, h3⟩ := nx_inv l (i + 1) _ m r (fun y hy => hb y (by simp [hy])) h
    have hn := h3 (by omega)
    have hc256 := hb c (by simp)
    refine ⟨n * 128 + c % 128, ?_, ?_, fun _ => by omega⟩
    · rw [h1, Nat.pow_succ, Nat.add_mul, Nat.mul_assoc, Nat.mul_comm 128 (128 ^ i)]
      omega
    · rw [formM_big (by omega), h2]
      have e1 : (n * 128 + c % 128) % 128 + 128 = c := by omega
      have e2 : (n * 128 + c % 128) / 128 = n := by omega
      rw [e1, e2]
      rfl

theorem num_inv {most : Nat} {s : RS} {r : List Nat} (h0 : s.2 = 0) (hb : Byt s.1) (h : (numM most s).2 = (r, 0)) : s.1 = formM (numM most s).1 ++ r := by
  cases hn : nx most 0 0 s.1 with
  | error e =>
    rw [num_err h0 hn] at h
    injection h with h1 h2
    have : e = 3 ∨ e = 4 := by
      have key : ∀ (l : List Nat) (i acc : Nat), nx most i acc l = .error e → e = 3 ∨ e = 4 := fun l => by
        induction l with
        | nil => intro i acc h; simp [nx] at h; omega
        | cons c l ih =>
          intro i acc h
          simp only [nx] at h
          split at h
          · injection h with h; omega
          split at h
          · cases h
          split at h
          · injection h with h; omega
          · exact ih _ _ h
      exact key _ _ _ hn
    omega
  | ok q =>
    obtain ⟨n, r'⟩ := q
    rw [num_ok h0 hn] at h ⊢
    simp only at h ⊢
    injection h with h1 h2
    obtain ⟨m, e1, e2, _⟩ := nx_inv s.1 0 0 n r' hb hn
    simp at e1
    subst e1 h1
    exact e2

theorem numR_inv {most : Nat} : Inv (fun s => (((numM most s).1 : Int), (numM most s).2)) (fun x => numsB [x]) := fun s r h0 hb h => by
  have := num_inv h0 hb h
  simpa [numsB] using this

theorem manyL_inv {α : Type} {one : RS → α × RS} {enc : α → List Nat} (hi : Inv one enc) : ∀ (n : Nat) (acc : List α) (s : RS) (r : List Nat), s.2 = 0 → Byt s.1 → (manyL one n acc s).2 = (r, 0) → ∃ l, (manyL one n acc s).1 = acc ++ l ∧ l.length = n ∧ s.1 = l.flatMap enc ++ r
  | 0, acc, s, r, h0, hb, h => by
    simp only [manyL] at h ⊢
    exact ⟨[], by simp, rfl, by rw [h]; rfl⟩
  | n + 1, acc, s, r, h0, hb, h => by
    simp only [manyL] at h ⊢
    split at h
    · rename_i hne
      rw [h] at hne
      exact absurd rfl hne
    rename_i hne
    rw [if_neg hne]
    have he : (one s).2.2 = 0 := by simpa using hne
    obtain ⟨r1, hr1⟩ : ∃ r1, (one s).2 = (r1, 0) := ⟨(one s).2.1, by rw [← he]⟩
    have h1 := hi s r1 h0 hb hr1
    have hb1 : Byt (one s).2.1 := by
      rw [hr1]
      rw [h1] at hb
      exact hb.right
    obtain ⟨l, h2, h3, h4⟩ := manyL_inv hi n (acc ++ [(one s).1]) (one s).2 r he hb1 h
    refine ⟨(one s).1 :: l, by rw [h2]; simp, by simp [h3], ?_⟩
    rw [h1]
    rw [hr1] at h4
    simp only at h4
    rw [h4]
    simp

theorem many_inv {α : Type} {one : RS → α × RS} {enc : α → List Nat} (hi : Inv one enc) : Inv (manyM one) (fun l => numsB [(l.length : Int)] ++ l.flatMap enc) := fun s r h0 hb h => by
  unfold manyM at h ⊢
  by_cases he : (numM 1048576 s).2.2 = 0
  · obtain ⟨r1, hr1⟩ : ∃ r1, (numM 1048576 s).2 = (r1, 0) := ⟨(numM 1048576 s).2.1, by rw [← he]⟩
    have h1 := num_inv h0 hb hr1
    have hb1 : Byt (numM 1048576 s).2.1 := by
      rw [hr1]
      rw [h1] at hb
      exact hb.right
    obtain ⟨l, h2, h3, h4⟩ := manyL_inv hi _ [] _ r he hb1 h
    simp only [h2, List.nil_append]
    have e : numsB [(l.length : Int)] = formM (numM 1048576 s).1 := by rw [h3]; simp [numsB]
    rw [e, h1]
    rw [hr1] at h4
    simp only at h4
    rw [h4]
    simp
  · exfalso
    have h0' : (numM 1048576 s).1 = 0 := by
      cases hn : nx 1048576 0 0 s.1 with
      | error e => rw [num_err h0 hn]
      | ok q => rw [num_ok h0 hn] at he; exact absurd rfl he
    rw [h0', manyL] at h
    rw [h] at he
    exact he rfl

theorem pair_inv {α β γ : Type} {p : RS → α × RS} {q : RS → β × RS} {ep : α → List Nat} {eq' : β → List Nat} {mk : α → β → γ} {one : RS → γ × RS} {enc : γ → List Nat} (hp : Inv p ep) (hq : Inv q eq') (hd : Dead q)
    (ho : ∀ s, one s = (mk (p s).1 (q (p s).2).1, (q (p s).2).2)) (he : ∀ x y, enc (mk x y) = ep x ++ eq' y) : Inv one enc := fun s r h0 hb h => by
  rw [ho] at h ⊢
  simp only at h ⊢
  rw [he]
  have hz : (p s).2.2 = 0 := Classical.byContradiction fun hne => by
    have := hd _ hne
    rw [h] at this
    exact hne this.symm
  obtain ⟨r1, hr1⟩ : ∃ r1, (p s).2 = (r1, 0) := ⟨(p s).2.1, by rw [← hz]⟩
  have h1 := hp s r1 h0 hb hr1
  have hb1 : Byt (p s).2.1 := by
    rw [hr1]
    rw [h1] at hb
    exact hb.right
  have h2 := hq (p s).2 r hz hb1 h
  rw [h1]
  rw [hr1] at h2 ⊢
  simp only at h2
  rw [List.append_assoc, ← h2]

/-! ### the parts of code -/
def numR (most : Nat) (s : RS) : Int × RS := (((numM most s).1 : Int), (numM most s).2)
def toM (s : RS) : List Int × RS := manyM numI s
def toB (l : List Int) : List Nat := numsB [(l.length : Int)] ++ l.flatMap fun x => numsB [x]
def i3M (s : RS) : (Int × List Int) × RS := (((numR 1048576 s).1, (toM (numR 1048576 s).2).1), (toM (numR 1048576 s).2).2)
def i3B (p : Int × List Int) : List Nat := numsB [p.1] ++ toB p.2
def i2M (s : RS) : (Int × Int × List Int) × RS := (((numR 1048576 s).1, (i3M (numR 1048576 s).2).1), (i3M (numR 1048576 s).2).2)
def i2B (p : Int × Int × List Int) : List Nat := numsB [p.1] ++ i3B p.2
theorem insM_eq (s : RS) : insM s = (⟨(numR 255 s).1, (i2M (numR 255 s).2).1.1, (i2M (numR 255 s).2).1.2.1, (i2M (numR 255 s).2).1.2.2⟩, (i2M (numR 255 s).2).2) := rfl
theorem insB_eq (n : Ins) : insB n = numsB [n.op] ++ i2B (n.a, n.b, n.to) := by
  unfold insB i2B i3B toB
  simp [numsB, List.flatMap_assoc]

theorem to_reads {l : List Int} (hl : l.length ≤ 1048576) (h : ∀ t ∈ l, 0 ≤ t ∧ t ≤ 1048576) : Reads toM toB l := many_reads hl fun t ht => num_reads (Nat.le_refl _) (h t ht).1 (by have := (h t ht).2; omega)
theorem i3_reads {p : Int × List Int} (h0 : 0 ≤ p.1) (h1 : p.1 ≤ 1048576) (hl : p.2.length ≤ 1048576) (h : ∀ t ∈ p.2, 0 ≤ t ∧ t ≤ 1048576) : Reads i3M i3B p :=
  pair_reads (p := numR 1048576) (q := toM) (mk := Prod.mk) (x := p.1) (y := p.2) (num_reads (Nat.le_refl _) h0 (by omega)) (to_reads hl h) manyM_dead (fun s => rfl) rfl
theorem i3_dead : Dead i3M := pair_dead (p := numR 1048576) (q := toM) (mk := Prod.mk) num_dead' manyM_dead (fun s => rfl)
theorem i2_reads {p : Int × Int × List Int} (g0 : 0 ≤ p.1) (g1 : p.1 ≤ 1048576) (h0 : 0 ≤ p.2.1) (h1 : p.2.1 ≤ 1048576) (hl : p.2.2.length ≤ 1048576) (h : ∀ t ∈ p.2.2, 0 ≤ t ∧ t ≤ 1048576) : Reads i2M i2B p :=
  pair_reads (p := numR 1048576) (q := i3M) (mk := Prod.mk) (x := p.1) (y := p.2) (num_reads (Nat.le_refl _) g0 (by omega)) (i3_reads h0 h1 hl h) i3_dead (fun s => rfl) rfl
theorem i2_dead : Dead i2M := pair_dead (p := numR 1048576) (q := i3M) (mk := Prod.mk) num_dead' i3_dead (fun s => rfl)
theorem ins_reads {n : Ins} (h : InsOk n) : Reads insM insB n :=
  pair_reads (p := numR 255) (q := i2M) (mk := fun o p => (⟨o, p.1, p.2.1, p.2.2⟩ : Ins)) (x := n.op) (y := (n.a, n.b, n.to)) (num_reads (by omega) (by have := h.op; omega) (by have := h.op; omega))
    (i2_reads h.a.1 h.a.2 h.b.1 h.b.2 (by have := h.len; simp only; omega) h.to) i2_dead insM_eq (insB_eq n)
theorem ins_dead : Dead insM := pair_dead (p := numR 255) (q := i2M) (mk := fun o p => (⟨o, p.1, p.2.1, p.2.2⟩ : Ins)) num_dead' i2_dead insM_eq
theorem ins_inv : Inv insM insB :=
  pair_inv (p := numR 255) (q := i2M) (mk := fun o p => (⟨o, p.1, p.2.1, p.2.2⟩ : Ins)) numR_inv
    (pair_inv (p := numR 1048576) (q := i3M) (mk := Prod.mk) (enc := i2B) numR_inv (pair_inv (p := numR 1048576) (q := toM) (mk := Prod.mk) (enc := i3B) numR_inv (many_inv (one := numI) numR_inv) manyM_dead (fun s => rfl) (fun x y => rfl)) i3_dead (fun s => rfl) (fun x y => rfl))
    i2_dead insM_eq (fun x y => insB_eq _)

theorem block_reads {b : List Ins} (hl : b.length ≤ 1048576) (h : ∀ n ∈ b, InsOk n) : Reads rblockM blockB b := many_reads hl fun n hn => ins_reads (h n hn)
theorem block_dead : Dead rblockM := manyM_dead
theorem block_inv : Inv rblockM blockB := many_inv ins_inv

theorem bit_reads (b : Bool) : Reads bitM (fun b => numsB [bitI b]) b := by
  have hr := num_reads (most := 1) (x := bitI b) (by omega) (by cases b <;> simp [bitI]) (by cases b <;> simp [bitI])
  refine ⟨fun r => ?_, fun k hk => hr.cut k hk⟩
  have := hr.back r
  unfold bitM
  simp only [Prod.mk.injEq] at this ⊢
  refine ⟨?_, this.2⟩
  rw [this.1]
  cases b <;> simp [bitI]
theorem bit_inv : Inv bitM (fun b => numsB [bitI b]) := fun s r h0 hb h => by
  have := num_inv h0 hb h
  have hle := num_le 1 s
  rw [this]
  unfold bitM
  simp only
  congr 1
  have : (numM 1 s).1 = 0 ∨ (numM 1 s).1 = 1 := by omega
  rcases this with e | e <;> rw [e] <;> simp [numsB, bitI]
theorem keptB_eq (k : List Bool) : keptB k = numsB [(k.length : Int)] ++ k.flatMap fun b => numsB [bitI b] := by
  unfold keptB
  simp [numsB, List.flatMap_map]
theorem kept_reads {k : List Bool} (hl : k.length ≤ 1048576) : Reads rkeptM keptB k := by
  have := many_reads (one := bitM) (enc := fun b => numsB [bitI b]) hl (fun b _ => bit_reads b)
  have e : keptB = fun k : List Bool => numsB [(k.length : Int)] ++ k.flatMap fun b => numsB [bitI b] := funext keptB_eq
  rw [e]
  exact this
theorem kept_inv : Inv rkeptM keptB := by
  have e : keptB = fun k : List Bool => numsB [(k.length : Int)] ++ k.flatMap fun b => numsB [bitI b] := funext keptB_eq
  rw [e]
  exact many_inv bit_inv

def keptsB (l : List (List Bool)) : List Nat := numsB [(l.length : Int)] ++ l.flatMap keptB
theorem shpB_eq (s : Shp) : shpB s = numsB [s.params] ++ keptsB s.kept := by
  unfold shpB keptsB
  simp [numsB]
theorem shp_reads {s : Shp} (h : ShpOk s) : Reads rshpM shpB s :=
  pair_reads (p := numR 1048576) (q := manyM rkeptM) (mk := Shp.mk) (x := s.params) (y := s.kept) (num_reads (Nat.le_refl _) h.params.1 (by have := h.params.2; omega))
    (many_reads (by have := h.kept; omega) fun k hk => kept_reads (by have := h.each k hk; omega)) manyM_dead (fun s => rfl) (shpB_eq s)
theorem shp_inv : Inv rshpM shpB := pair_inv (p := numR 1048576) (q := manyM rkeptM) (mk := Shp.mk) numR_inv (many_inv kept_inv) manyM_dead (fun s => rfl) (fun x y => shpB_eq _)
theorem fn_reads {f : Cd.Fn} (h : 0 ≤ f.caps ∧ f.caps ≤ 255) (hl : f.code.length ≤ 1048576) (hi : ∀ n ∈ f.code, InsOk n) : Reads rfnM fnB f :=
  pair_reads (p := numR 1048576) (q := rblockM) (mk := Cd.Fn.mk) (x := f.caps) (y := f.code) (num_reads (Nat.le_refl _) h.1 (by omega)) (block_reads hl hi) block_dead (fun s => rfl) rfl
theorem fn_inv : Inv rfnM fnB := pair_inv (p := numR 1048576) (q := rblockM) (mk := Cd.Fn.mk) numR_inv block_inv block_dead (fun s => rfl) (fun x y => rfl)

def k4M (s : RS) : (List (List Ins) × List Ins) × RS := (((manyM rblockM s).1, (rblockM (manyM rblockM s).2).1), (rblockM (manyM rblockM s).2).2)
def k4B (p : List (List Ins) × List Ins) : List Nat := (numsB [(p.1.length : Int)] ++ p.1.flatMap blockB) ++ blockB p.2
def k3M (s : RS) : (List Cd.Fn × List (List Ins) × List Ins) × RS := (((manyM rfnM s).1, (k4M (manyM rfnM s).2).1), (k4M (manyM rfnM s).2).2)
def k3B (p : List Cd.Fn × List (List Ins) × List Ins) : List Nat := (numsB [(p.1.length : Int)] ++ p.1.flatMap fnB) ++ k4B p.2
def k2M (s : RS) : (List Shp × List Cd.Fn × List (List Ins) × List Ins) × RS := (((manyM rshpM s).1, (k3M (manyM rshpM s).2).1), (k3M (manyM rshpM s).2).2)
def k2B (p : List Shp × List Cd.Fn × List (List Ins) × List Ins) : List Nat := (numsB [(p.1.length : Int)] ++ p.1.flatMap shpB) ++ k3B p.2
def mkC (n : Int) (p : List Shp × List Cd.Fn × List (List Ins) × List Ins) : Cod := ⟨n - 1, p.1, p.2.1, p.2.2.1, p.2.2.2⟩
theorem rcodM_eq (s : RS) : rcodM s = (mkC (numR 1048576 s).1 (k2M (numR 1048576 s).2).1, (k2M (numR 1048576 s).2).2) := rfl
theorem codB_eq (n : Int) (p : List Shp × List Cd.Fn × List (List Ins) × List Ins) : codB (mkC n p) = numsB [n] ++ k2B p := by
  unfold codB k2B k3B k4B mkC
  simp [numsB]
theorem k4_dead : Dead k4M := pair_dead (p := manyM rblockM) (q := rblockM) (mk := Prod.mk) manyM_dead block_dead (fun s => rfl)
theorem k3_dead : Dead k3M := pair_dead (p := manyM rfnM) (q := k4M) (mk := Prod.mk) manyM_dead k4_dead (fun s => rfl)
theorem k2_dead : Dead k2M := pair_dead (p := manyM rshpM) (q := k3M) (mk := Prod.mk) manyM_dead k3_dead (fun s => rfl)
theorem cod_inv : Inv rcodM codB :=
  pair_inv (p := numR 1048576) (q := k2M) (mk := mkC) numR_inv
    (pair_inv (p := manyM rshpM) (q := k3M) (mk := Prod.mk) (enc := k2B) (many_inv shp_inv)
      (pair_inv (p := manyM rfnM) (q := k4M) (mk := Prod.mk) (enc := k3B) (many_inv fn_inv)
        (pair_inv (p := manyM rblockM) (q := rblockM) (mk := Prod.mk) (enc := k4B) (many_inv block_inv) block_inv block_dead (fun s => rfl) (fun x y => rfl)) k4_dead (fun s => rfl) (fun x y => rfl)) k3_dead (fun s => rfl) (fun x y => rfl))
    k2_dead rcodM_eq codB_eq
theorem cod_reads {c : Cod} (h : Fine c) : Reads rcodM codB c := by
  have hs := h.size
  have hsum : c.main.length ≤ 16384 ∧ (∀ f ∈ c.funs, f.code.length ≤ 16384) ∧ ∀ b ∈ c.bodies, b.length ≤ 16384 := by
    unfold sizeM at hs
    refine ⟨by omega, fun f hf => ?_, fun b hb => ?_⟩
    · have := le_sum (List.mem_map_of_mem (f := fun f : Cd.Fn => f.code.length) hf)
      omega
    · have := le_sum (List.mem_map_of_mem (f := List.length) hb)
      omega
  have sm := h.small
  have := sm.shapes
  have := sm.funs
  have := sm.bodies
  have hn := h.nat
  have r4 : Reads k4M k4B (c.bodies, c.main) := pair_reads (p := manyM rblockM) (q := rblockM) (mk := Prod.mk) (x := c.bodies) (y := c.main) (many_reads (by omega) fun b hb => block_reads (by have := hsum.2.2 b hb; omega) (h.bodies b hb)) (block_reads (by omega) h.main) block_dead (fun s => rfl) rfl
  have r3 : Reads k3M k3B (c.funs, c.bodies, c.main) := pair_reads (p := manyM rfnM) (q := k4M) (mk := Prod.mk) (x := c.funs) (y := (c.bodies, c.main)) (many_reads (by omega) fun f hf => fn_reads (sm.caps f hf) (by have := hsum.2.1 f hf; omega) (h.funs f hf)) r4 k4_dead (fun s => rfl) rfl
  have r2 : Reads k2M k2B (c.shapes, c.funs, c.bodies, c.main) := pair_reads (p := manyM rshpM) (q := k3M) (mk := Prod.mk) (x := c.shapes) (y := (c.funs, c.bodies, c.main)) (many_reads (by omega) fun s hs => shp_reads (sm.shp s hs)) r3 k3_dead (fun s => rfl) rfl
  have r1 := pair_reads (p := numR 1048576) (q := k2M) (mk := mkC) (one := rcodM) (enc := codB) (x := c.nat + 1) (y := (c.shapes, c.funs, c.bodies, c.main)) (num_reads (Nat.le_refl _) (by omega) (by omega)) r2 k2_dead rcodM_eq (codB_eq _ _)
  have e : mkC (c.nat + 1) (c.shapes, c.funs, c.bodies, c.main) = c := by
    unfold mkC
    cases c
    simp
  rw [e] at r1
  exact r1

/-! ### what is written is read as it was -/
theorem dec_enc {c : Cod} (h : checkM c = 0) (hl : (codB c).length ≤ 65536) : decE (codB c) = 0 ∧ decC (codB c) = c := by
  have hr := (cod_reads (fine_of h)).back []
  rw [List.append_nil] at hr
  have he : decE (codB c) = 0 := by
    unfold decE
    rw [if_neg (by omega), hr, if_neg (by simp), if_neg (by simp), h]
  refine ⟨he, ?_⟩
  unfold decC
  rw [if_pos he, hr]
theorem dec_cut {c : Cod} (h : checkM c = 0) (hl : (codB c).length ≤ 65536) {k : Nat} (hk : k < (codB c).length) : decE ((codB c).take k) = 4 := by
  have hr := (cod_reads (fine_of h)).cut k hk
  unfold decE
  rw [if_neg (by simp; omega), hr, if_pos (by decide)]
theorem dec_more {c : Cod} (h : checkM c = 0) : decE (codB c ++ [0]) = 3 ∨ decE (codB c ++ [0]) = 6 := by
  have hr := (cod_reads (fine_of h)).back [0]
  unfold decE
  by_cases hl : 65536 < (codB c ++ [0]).length
  · rw [if_pos hl]; exact .inr rfl
  · rw [if_neg hl, hr, if_neg (by simp), if_pos (by simp)]; exact .inl rfl
theorem enc_dec {b : List Nat} (hb : Byt b) (h : decE b = 0) : checkM (decC b) = 0 ∧ codB (decC b) = b ∧ b.length ≤ 65536 := by
  have hC : decC b = (rcodM (b, 0)).1 := by unfold decC; rw [if_pos h]
  unfold decE at h
  split at h
  · cases h
  rename_i g1
  split at h
  · rename_i g2; exact absurd h g2
  rename_i g2
  split at h
  · cases h
  rename_i g3
  have hr : (rcodM (b, 0)).2 = ([], 0) := by
    have e1 : (rcodM (b, 0)).2.2 = 0 := by simpa using g2
    have e2 : (rcodM (b, 0)).2.1 = [] := List.length_eq_zero_iff.1 (by omega)
    exact Prod.ext e2 e1
  have := cod_inv (b, 0) [] rfl hb hr
  rw [hC]
  refine ⟨h, ?_, by omega⟩
  simpa using this.symm
end Cd
