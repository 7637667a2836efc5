/-
  Levels: the least values, SameInts, Gap of the reference, Meets.
-/
import Derived.Test.YtbgiljognlbkhaaLvS
import Derived.Test.YtbgiljognlbkhaaWxT
set_option linter.unusedSimpArgs false
set_option linter.unusedVariables false
namespace Go.Proofs.Ytbgiljognlbkhaa
open Go.Wx Lv

theorem same_ct (l m : List Int) (a b : Option Addr) (ca cb : Nat) (w : World) (ha : Ints w.heap.size w.heap a l) (hb : Ints w.heap.size w.heap b m) (hl : (l.length : Int) ≤ 9223372036854775807) :
    CallOk Try.prog 22 ∧ Calls Try.prog 22 #[.slice a l.length ca, .slice b m.length cb] w (fun e w' => e = .returned (.bool (decide (l = m))) ∧ Kp [] w w') := by
  refine ⟨⟨_, Try.func22, rfl, by decide⟩, ?_⟩
  refine calls_of (args := [_, _]) 26 [.tmp 4] τok Try.func22 rfl rfl rfl (Nat.le_of_ble_eq_true rfl) ?_
  refine br_dec (fun h1 => ?_) (fun h1 => ?_)
  · refine ⟨?_, Kp.refl _ _⟩
    rw [decide_eq_false (fun h : l = m => h1 (by rw [h]))]
    rfl
  have hlen : l.length = m.length := by omega
  refine loop τok (σ := Nat) (fun k => [(0, .slice a l.length ca), (1, .slice b m.length cb), (5, .int .i64 k)])
    (fun k w' => k ≤ l.length ∧ l.take k = m.take k ∧ Kp [] w w') (fun k => l.length - k) 0 ⟨rfl, rfl, rfl, trivial⟩ ⟨Nat.zero_le _, by simp, Kp.refl _ _⟩ ?_
  rintro k w1 ⟨hk, hr, hkp⟩
  refine br_dec (fun h5 => ?_) (fun h5 => ?_)
  · have hlt : k < l.length := by omega
    have hlt' : k < m.length := by omega
    rcases ha.1 with h0 | ⟨b1, o1, rfl, hb1, hc1⟩
    · omega
    rcases hb.1 with h0 | ⟨b2, o2, rfl, hb2, hc2⟩
    · omega
    obtain ⟨x, hx⟩ : ∃ x, l.getD k 0 = x := ⟨_, rfl⟩
    obtain ⟨y, hy⟩ : ∃ y, m.getD k 0 = y := ⟨_, rfl⟩
    have hd1 : Cl w1.heap b1 (o1 + k * 1 + 0) (.int .i64 x) := hx ▸ (hc1 k 0 hlt (by omega)).kp hkp (by simp)
    have hd2 : Cl w1.heap b2 (o2 + k * 1 + 0) (.int .i64 y) := hy ▸ (hc2 k 0 hlt' (by omega)).kp hkp (by simp)
    have hx' : l[k] = x := by simpa [List.getD, hlt] using hx
    have hy' : m[k] = y := by simpa [List.getD, hlt'] using hy
    refine drawR τok (by kernel_rfl) ?_
    refine ix k rfl hlt ?_
    refine ldR hd1 ?_
    refine ix k rfl hlt' ?_
    refine ldR hd2 ?_
    refine fun d => ?_
    refine br_dec (fun c => ?_) (fun c => ?_)
    · refine ⟨?_, hkp.dr d⟩
      rw [decide_eq_false (fun h : l = m => by subst h; exact c (hx.symm.trans hy))]
      rfl
    · have c : x = y := by simpa using c
      refine int64 (by omega) (by omega) ?_
      refine ⟨k + 1, by omega, rfl, ⟨rfl, rfl, rfl, trivial⟩, hlt, ?_, hkp.dr d⟩
      rw [List.take_succ_eq_append_getElem hlt, List.take_succ_eq_append_getElem hlt', hr, hx', hy', c]
  · refine ⟨?_, hkp⟩
    rw [List.take_of_length_le (by omega), List.take_of_length_le (by omega)] at hr
    rw [decide_eq_true hr]
    rfl

/-! ### Least -/
def leastL (vars : Int) (g : G) : List Int := (List.range vars.toNat).map fun i => (g 0 ((i : Nat) + 1 : Int)).getD 0

def LeastPost (vars : Int) (os : List Order) (w : World) (e : Ending) (w' : World) : Prop :=
  Kp [] w w' ∧ match closedF vars os with
    | .error n => e = .returned (.tuple #[.slice none 0 0, .int .i64 n])
    | .ok g => ∃ b, e = .returned (.tuple #[.slice (some ⟨b, 0, none⟩) (leastL vars g).length (leastL vars g).length, .int .i64 0]) ∧ w.heap.size ≤ b ∧ RowI w'.heap b (leastL vars g) 3

theorem set_take {l : List Int} {k n : Nat} (h : k < l.length) (hn : n = l.length) : (l.take k ++ List.replicate (n - k) 0).set k (l.getD k 0) = l.take (k + 1) ++ List.replicate (n - (k + 1)) 0 := by
  rw [List.set_append_right _ _ (by simp; omega)]
  simp only [List.length_take, Nat.min_eq_left (Nat.le_of_lt h), Nat.sub_self]
  rw [show n - k = (n - (k + 1)) + 1 by omega, List.replicate_succ, List.set_cons_zero, List.take_succ_eq_append_getElem h, List.append_assoc, List.singleton_append, List.getD_eq_getElem?_getD, List.getElem?_eq_getElem h, Option.getD_some]

theorem least_ct (vars : Int) (os : List Order) (ao : Option Addr) (co : Nat) (w : World) (ho : Orders w.heap.size w.heap ao os) :
    CallOk Try.prog 19 ∧ Calls Try.prog 19 #[.int .i64 vars, .slice ao os.length co] w (LeastPost vars os w) := by
  refine ⟨⟨_, Try.func19, rfl, by decide⟩, ?_⟩
  refine calls_of (args := [_, _]) 36 [.tmp 4, .tmp 5] τok Try.func19 rfl rfl rfl (Nat.le_of_ble_eq_true rfl) ?_
  refine ev_call (closed_ct vars os ao co w ho) ?_
  rintro e w1 ⟨hk1, hcl⟩
  unfold LeastPost
  cases hc : closedF vars os with
  | error n =>
    rw [hc] at hcl; simp only at hcl; subst hcl
    have hn : n ≠ 0 := by
      rcases closedF_err hc with ⟨_, h⟩ | ⟨_, _, h⟩ | ⟨_, _, _, h⟩ | ⟨_, _, _, h, _⟩ <;> omega
    refine br_yes hn ?_
    exact ⟨hk1, rfl⟩
  | ok g =>
    rw [hc] at hcl; obtain ⟨bm, rfl, hg, hbm⟩ := hcl
    obtain ⟨_, hv0, hv16, _, _⟩ := closedF_ok hc
    obtain ⟨n, hn⟩ : ∃ n : Nat, (n : Int) = vars := ⟨vars.toNat, by omega⟩
    obtain ⟨L, hL⟩ : ∃ L, leastL vars g = L := ⟨_, rfl⟩
    have hlen : L.length = n := by rw [← hL]; simp [leastL]; omega
    have hget : ∀ k, k < n → L.getD k 0 = (g 0 ((k : Nat) + 1 : Int)).getD 0 := fun k hk => by
      rw [← hL]; simp [leastL, List.getD, show k < vars.toNat by omega]
    refine mk τok (T := 23) rfl (z := [.int .i64 0]) rfl n (by omega) (by decide) (by omega) (by omega) fun bd w2 hbd hB2 hs2 hk2 => ?_
    have hB2' : RowI w2.heap bd (L.take 0 ++ List.replicate (n - 0) 0) 3 := by
      unfold RowI; rw [List.take_zero, List.nil_append, List.map_replicate, ← rep_one]; exact hB2
    have hlt : bm < w1.heap.size := hg.lt
    have hks : w.heap.size ≤ w1.heap.size := hk1.size
    refine loop τok (σ := Nat) (fun k => [(8, .slice (some ⟨bd, 0, none⟩) n n), (6, .map (some bm)), (22, .int .i64 n), (23, .int .i64 k)])
      (fun k w' => k ≤ n ∧ RowI w'.heap bd (L.take k ++ List.replicate (n - k) 0) 3 ∧ Gr w'.heap bm g ∧ Kp [] w w') (fun k => n - k) 0 ⟨rfl, rfl, rfl, rfl, trivial⟩ ⟨Nat.zero_le _, hB2', hg.kp hk2 (by simp), hk1.tr hk2⟩ ?_
    rintro k w3 ⟨hk, hB3, hg3, hk3⟩
    refine br_dec (fun h5 => ?_) (fun h5 => ?_)
    · have hkn : k < n := by omega
      refine int64 (by omega) (by omega) ?_
      refine run (gr_look hg3 0 (k + 1) false) ?_
      refine ix k rfl hkn ?_
      refine stI hB3 (by simp [hlen]; omega) fun w4 hB4 hs4 hk4 => ?_
      refine int64 (by omega) (by omega) ?_
      refine ⟨k + 1, by omega, rfl, ⟨rfl, rfl, rfl, rfl, trivial⟩, hkn, ?_, hg3.kp hk4 (by simp; omega), Kp.own hk3 hk4 (by omega)⟩
      rw [← set_take (by omega) hlen.symm, hget k hkn]
      exact hB4
    · refine ⟨hk3, bd, ?_, by omega, ?_⟩
      · rw [hL, hlen]; rfl
      · have : k = n := by omega
        subst this
        rw [List.take_of_length_le (by omega), Nat.sub_self, List.replicate_zero, List.append_nil] at hB3
        rw [hL]
        exact hB3
end Go.Proofs.Ytbgiljognlbkhaa
