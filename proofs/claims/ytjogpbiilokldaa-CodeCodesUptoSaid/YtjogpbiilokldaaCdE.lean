/-
  Code: slices.Repeat; the checker's one and block.
-/
import Derived.Test.YtjogpbiilokldaaCdD
import Derived.Test.YtjogpbiilokldaaWxI
set_option linter.unusedSimpArgs false
set_option linter.unusedVariables false
namespace Go.Proofs.Ytjogpbiilokldaa
open Go.Wx Cd

theorem and_mask (n : Nat) (h : n < 4294967296) : n &&& 4294967295 = n := by
  have := Nat.and_two_pow_sub_one_eq_mod n 32
  simp at this
  rw [this]
  omega
theorem and_mask' (n : Nat) : n &&& 4294967295 = n % 4294967296 := by
  have := Nat.and_two_pow_sub_one_eq_mod n 32
  simpa using this

theorem mul64_ct (n : Nat) (hn : n < 1099511627777) (w : World) : CallOk Try.prog 94 ∧ Calls Try.prog 94 #[.int .u64 1, .int .u64 (n : Int)] w (fun e w' => e = .returned (.tuple #[.int .u64 0, .int .u64 (n : Int)]) ∧ Kp [] w w') := by
  refine ⟨⟨_, Try.func94, rfl, by decide⟩, ?_⟩
  refine calls_of (args := [_, _]) 51 [.tmp 4, .tmp 5] τok Try.func94 rfl rfl rfl (Nat.le_of_ble_eq_true rfl) ?_
  have hy0' : n % 4294967296 < 4294967296 := by omega
  have hy1' : n / 4294967296 < 257 := by omega
  obtain ⟨y0, hy0⟩ : ∃ y0, n % 4294967296 = y0 := ⟨_, rfl⟩
  obtain ⟨y1, hy1⟩ : ∃ y1, n / 4294967296 = y1 := ⟨_, rfl⟩
  rw [hy0] at hy0'
  rw [hy1] at hy1'
  refine and64 (x := 1) (y := 4294967295) 1 (by omega) (by omega) (by decide) ?_
  refine shr64 (x := 1) (n := 32) 0 (by omega) (by decide) ?_
  refine and64 (x := n) (y := 4294967295) y0 (by omega) (by omega) (by rw [and_mask', hy0]) ?_
  refine shr64 (x := n) (n := 32) y1 (by omega) hy1 ?_
  refine u64n y0 (by omega) (by omega) ?_
  refine u64n 0 (by omega) (by omega) ?_
  refine shr64 (x := y0) (n := 32) 0 (by omega) (by omega) ?_
  refine u64n 0 (by omega) (by omega) ?_
  refine and64 (x := 0) (y := 4294967295) 0 (by omega) (by omega) (by decide) ?_
  refine shr64 (x := 0) (n := 32) 0 (by omega) (by decide) ?_
  refine u64n y1 (by omega) (by omega) ?_
  refine u64n y1 (by omega) (by omega) ?_
  refine u64n 0 (by omega) (by omega) ?_
  refine u64n 0 (by omega) (by omega) ?_
  refine shr64 (x := y1) (n := 32) 0 (by omega) (by omega) ?_
  refine u64n 0 (by omega) (by omega) ?_
  refine u64n n (by omega) (by omega) ?_
  exact ⟨rfl, Kp.refl _ _⟩

theorem mul_ct (n : Nat) (hn : n < 1099511627777) (w : World) : CallOk Try.prog 73 ∧ Calls Try.prog 73 #[.int .u64 1, .int .u64 (n : Int)] w (fun e w' => e = .returned (.tuple #[.int .u64 0, .int .u64 (n : Int)]) ∧ Kp [] w w') := by
  refine ⟨⟨_, Try.func73, rfl, by decide⟩, ?_⟩
  refine calls_of (args := [_, _]) 30 [.tmp 4, .tmp 5] τok Try.func73 rfl rfl rfl (Nat.le_of_ble_eq_true rfl) ?_
  refine ev_call (mul64_ct n hn w) ?_
  rintro e w1 ⟨rfl, hk1⟩
  exact ⟨rfl, hk1⟩

theorem repeat_ct (n : Nat) (hn : n < 1099511627777) (h0 : 0 < n) (x : Int) (b c : Nat) (w : World) (hb : Cl w.heap b 0 (.int .i64 x)) :
    CallOk Try.prog 53 ∧ Calls Try.prog 53 #[.slice (some ⟨b, 0, none⟩) 1 c, .int .i64 n] w (fun e w' => ∃ g, e = .returned (.slice (some ⟨g, 0, none⟩) n n) ∧ w.heap.size ≤ g ∧ RowI w'.heap g (List.replicate n x) 3 ∧ Kp [] w w') := by
  refine ⟨⟨_, Try.func53, rfl, by decide⟩, ?_⟩
  refine calls_of (args := [_, _]) 48 [.tmp 4] τok Try.func53 rfl rfl rfl (Nat.le_of_ble_eq_true rfl) ?_
  refine u64n 1 (by omega) rfl ?_
  refine u64n n (by omega) rfl ?_
  refine ev_call (mul_ct n hn w) ?_
  rintro e w1 ⟨rfl, hk1⟩
  refine br_dec (fun h => ?_) (fun _ => ?_)
  · exact absurd h (by omega)
  refine int64 (by omega) (by omega) ?_
  refine mk τok rfl rfl n rfl (by simp) (by omega) (by omega) fun g w2 hg hG hs2 hk2 => ?_
  have hR : RowI w2.heap g (List.replicate n (0 : Int)) 3 := by
    unfold RowI
    have : (List.replicate n (0 : Int)).map (Value.int .i64) = rep [zc 0] n := by rw [rep_one]; simp [zc]
    rw [this]
    exact hG
  have hb2 : Cl w2.heap b 0 (.int .i64 x) := hb.kp (hk1.tr hk2) (by simp)
  refine copyI τok rfl [x] hR (by simp; omega) (fun j y hj => ?_) (by simp; omega) fun w3 hR3 hs3 hk3 => ?_
  · match j with
    | 0 => simp at hj; subst hj; exact hb2
    | j + 1 => simp at hj
  have e1 : List.take 0 (List.replicate n (0 : Int)) ++ [x] ++ List.drop (0 + [x].length) (List.replicate n 0) = List.replicate 1 x ++ List.replicate (n - 1) 0 := by simp
  rw [e1] at hR3
  have hk13 : Kp [] w w3 := (hk1.tr hk2).trans hk3 (fun y hy hl => by have := hk1.size; simp at hy; omega)
  have hgl : w.heap.size ≤ g := by rw [hg]; exact hk1.size
  refine lp τok (σ := Nat) (fun m => [(7, .slice (some ⟨g, 0, none⟩) n n), (8, .int .i64 m)])
    (fun m w' => 1 ≤ m ∧ m ≤ n ∧ RowI w'.heap g (List.replicate m x ++ List.replicate (n - m) 0) 3 ∧ Kp [] w w') (fun m => n - m) 1 rfl ⟨rfl, rfl, trivial⟩ ⟨Nat.le_refl _, h0, hR3, hk13⟩ ?_
  rintro m w4 ⟨hm1, hmn, hR4, hk4⟩
  refine br_dec (fun hlt => ?_) (fun hlt => ?_)
  · have hlt : m < n := by omega
    refine drawH τok (fun w' => Kp [] w w') ?_
    refine any_reads τok [0, 1, 2, 3, 4, 5, 6] 3 #[true, true, true, true, true, true, true, false, false, false] rfl rfl (by kernel_rfl) (by kernel_rfl) (by kernel_rfl) (hk4.dr _) ?_
    refine slcLQ τok rfl m _ rfl (by omega) (sliced_lo hlt) ?_
    refine slcHQ τok rfl m _ rfl (by omega) sliced_hi ?_
    refine any_next τok 7 2 #[true, true, true, true, true, true, true, true, false, false] rfl rfl rfl (by kernel_rfl) ?_
    obtain ⟨w5, hw5⟩ : ∃ w5 : World, w5 = { w4 with drawn := w4.drawn + 1 } := ⟨_, rfl⟩
    have hR5 : RowI w5.heap g (List.replicate m x ++ List.replicate (n - m) 0) 3 := by rw [hw5]; exact hR4
    have hk5 : Kp [] w w5 := by rw [hw5]; exact hk4.dr _
    rw [← hw5]
    have hml : (List.replicate (min m (n - m)) x).length = min m (n - m) := by simp
    refine copyI τok rfl (List.replicate (min m (n - m)) x) hR5 (by simp) (fun j y hj => ?_) (by simp; omega) fun w6 hR6 hs6 hk6 => ?_
    · rw [List.getElem?_replicate] at hj
      split at hj
      · have hj := Option.some.inj hj
        subst hj
        have := RowI.cl hR5 (k := j) (by simp; omega)
        rw [Nat.mul_one] at this
        have e3 : (List.replicate m x ++ List.replicate (n - m) 0).getD j 0 = x := by
          rw [List.getD_eq_getElem?_getD, List.getElem?_append_left (by simp; omega), List.getElem?_replicate]
          rw [if_pos (by omega)]
          rfl
        rw [e3] at this
        exact this
      · cases hj
    have hk6' : Kp [] w w6 := hk5.trans hk6 (fun y hy hl => by simp at hy; omega)
    refine ⟨hk6', ?_⟩
    refine any_next τok 8 1 #[true, true, true, true, true, true, true, true, true, false] rfl rfl rfl (by kernel_rfl) ?_
    refine int64 (by rw [hml]; omega) (by rw [hml]; omega) ?_
    refine ⟨hk6', ?_⟩
    refine any_next τok 9 0 #[true, true, true, true, true, true, true, true, true, true] rfl rfl rfl (by kernel_rfl) ?_
    refine ⟨hk6', ?_⟩
    refine any_done (by kernel_rfl) ?_
    refine ⟨m + min m (n - m), by omega, rfl, ⟨rfl, by show some _ = some _; simp, trivial⟩, by omega, by omega, ?_, hk6'⟩
    have e4 : List.take m (List.replicate m x ++ List.replicate (n - m) 0) ++ List.replicate (min m (n - m)) x ++ List.drop (m + (List.replicate (min m (n - m)) x).length) (List.replicate m x ++ List.replicate (n - m) 0)
        = List.replicate (m + min m (n - m)) x ++ List.replicate (n - (m + min m (n - m))) 0 := by
      rw [List.take_append_of_le_length (by simp), List.drop_append]
      simp
      omega
    rw [Nat.zero_add, Nat.mul_one, e4] at hR6
    exact hR6
  · have e2 : m = n := by omega
    subst e2
    exact ⟨g, rfl, hgl, by simpa using hR4, hk4⟩

section
variable {C : Mem} {c : Cod} {code : List Ins} {p bc hb : Nat} {ac : Option Addr} {cc : Nat} {fl : Int} {hc : Nat} {s : List Int × Int} {w : World}

theorem one_ct (hi : CkIn C c code p bc hb ac) (hco : CodOk c) (hk : Ck C bc hb ac code.length cc fl hc p s w) (i : Nat) (n : Ins) (hn : code[i]? = some n) (hlen : code.length ≤ 1048576)
    (hf : 0 ≤ fl) (hh : fl ≤ s.1.getD i 0 ∧ s.1.getD i 0 ≤ 2305843009213693952) (hfb : fl ≤ 256) :
    CallOk Try.prog 54 ∧ Calls Try.prog 54 #[.pointer (some ⟨p, 0, none⟩), .int .i64 i] w
      (StepPost C bc hb ac code.length cc fl hc p w (oneM c code.length fl i n s)) := by
  have hl : c.shapes.length ≤ c.bodies.length := by rw [hco.len]; exact Nat.le_refl _
  generalize hRES : oneM c code.length fl i n s = RES
  generalize hH : s.1.getD i 0 = h at *
  have hone : (nextM c i n h fl).bind (fun l => goM code.length i l s) = RES := by rw [← hRES, ← hH]; rfl
  refine ⟨⟨_, Try.func54, rfl, by decide⟩, ?_⟩
  refine calls_ev (args := [_, _]) 149 [.tmp 4] Try.func54 rfl rfl rfl (Nat.le_of_ble_eq_true rfl) ?_
  have hil := get_lt hn
  have hplt : p < w.heap.size := hk.blk.lt
  have hblt : hb < w.heap.size := Bk.lt hk.row
  have hS := hk.sub
  have hB : Bk w.heap p [.pointer (some ⟨bc, 0, none⟩), .slice ac code.length cc, .int .i64 fl, .slice (some ⟨hb, 0, none⟩) code.length hc, .int .i64 s.2] 113 := hk.blk
  obtain ⟨bI, oI, hac, an, tc, hto, nop, na, nb, hcells⟩ := sl_ins hi.code hn
  have hrow : Cl w.heap hb (0 + i * 1) (.int .i64 h) := by
    have := RowI.cl hk.row (k := i) (by rw [hk.len]; exact hil)
    rw [hH] at this
    exact this
  refine ev_seq τok ?_
  -- the instruction and its height are read; a block is made for the instruction
  refine ev_mid τok (fun bn : Nat => [(0, .pointer (some ⟨p, 0, none⟩)), (1, .int .i64 i), (5, .pointer (some ⟨bn, 0, none⟩)), (6, .int .i64 h)])
    (fun bn w1 => Kp [] w w1 ∧ Bk w1.heap bn [.int .i64 n.op, .int .i64 n.a, .int .i64 n.b, .slice an n.to.length tc] 45 ∧ bn ≠ p ∧ bn ≠ hb) ?_ ?_
  · subst hac
    refine drawH τok (fun w' => Kp [] w w') ?_
    refine any_reads τok [0, 1, 2, 3, 4, 5, 6, 7, 8, 9, 10, 11, 12, 13] 3 #[true, true, true, true, true, true, true, true, true, true, true, true, true, true, false, false, false] rfl rfl (by kernel_rfl) (by kernel_rfl) (by kernel_rfl) ((Kp.refl _ _).dr _) ?_
    (repeat first | refine ldC ‹Sub _ _› (by assumption) ?_ | refine ld (Cl.cell (by first | assumption | exact Bk.cl (by assumption) rfl)) ?_ | refine ldK (by first | assumption | exact Bk.cl (by assumption) rfl | exact ‹Sub _ _› _ _ _ (by assumption)) ?_)
    refine ix i rfl hil ?_
    refine ldNK [.int .i64 n.op, .int .i64 n.a, .int .i64 n.b, .slice an n.to.length tc] rfl (fun j v hj => hS _ _ _ (hcells j v hj)) ?_
    (repeat first | refine ldC ‹Sub _ _› (by assumption) ?_ | refine ld (Cl.cell (by first | assumption | exact Bk.cl (by assumption) rfl)) ?_ | refine ldK (by first | assumption | exact Bk.cl (by assumption) rfl | exact ‹Sub _ _› _ _ _ (by assumption)) ?_)
    refine ix i rfl hil ?_
    (repeat first | refine ldC ‹Sub _ _› (by assumption) ?_ | refine ld (Cl.cell (by first | assumption | exact Bk.cl (by assumption) rfl)) ?_ | refine ldK (by first | assumption | exact Bk.cl (by assumption) rfl | exact ‹Sub _ _› _ _ _ (by assumption)) ?_)
    refine any_next τok 14 2 #[true, true, true, true, true, true, true, true, true, true, true, true, true, true, true, false, false] rfl rfl rfl (by kernel_rfl) ?_
    refine new fun bn w1 hbn hN hsn hk1 => ?_
    have hk1' : Kp [] w w1 := hk1.rd
    have hbn' : bn = w.heap.size := hbn
    refine ⟨hk1', ?_⟩
    refine any_next τok 15 1 #[true, true, true, true, true, true, true, true, true, true, true, true, true, true, true, true, false] rfl rfl rfl (by kernel_rfl) ?_
    refine stN hN rfl (by simp [Value.oneCell']) fun w2 hN2 hs2 hk2 => ?_
    have hk2' : Kp [] w w2 := hk1'.newSt hbn' hk2
    refine ⟨hk2', ?_⟩
    refine any_next τok 16 0 #[true, true, true, true, true, true, true, true, true, true, true, true, true, true, true, true, true] rfl rfl rfl (by kernel_rfl) ?_
    refine ⟨hk2', ?_⟩
    refine any_done (by kernel_rfl) ?_
    exact ⟨bn, rfl, ⟨rfl, rfl, rfl, rfl, trivial⟩, hk2', hN2, by omega, by omega⟩
  rintro bn w1 ⟨hk1, hN, hnp, hnh⟩
  have hk1w : Kp [p, hb] w w1 := hk1.weak (by simp)
  have hkk := hk.kp hk1
  have hS1 := hkk.sub
  have hB1 : Bk w1.heap p [.pointer (some ⟨bc, 0, none⟩), .slice ac code.length cc, .int .i64 fl, .slice (some ⟨hb, 0, none⟩) code.length hc, .int .i64 s.2] 113 := hkk.blk
  refine ev_seq τok ?_
  (repeat first | refine ldC ‹Sub _ _› (by assumption) ?_ | refine ld (Cl.cell (by first | assumption | exact Bk.cl (by assumption) rfl)) ?_ | refine ldK (by first | assumption | exact Bk.cl (by assumption) rfl | exact ‹Sub _ _› _ _ _ (by assumption)) ?_)
  refine int64 (by omega) (by omega) ?_
  refine ev_mid τok (fun z : Bool => [(0, .pointer (some ⟨p, 0, none⟩)), (1, .int .i64 i), (5, .pointer (some ⟨bn, 0, none⟩)), (6, .int .i64 h), (7, .int .i64 (h - fl)), (8, .bool z)]) (fun z w' => z = n.zero ∧ w1 = w') ?_ ?_
  · (repeat first | refine ldC ‹Sub _ _› (by assumption) ?_ | refine ld (Cl.cell (by first | assumption | exact Bk.cl (by assumption) rfl)) ?_ | refine ldK (by first | assumption | exact Bk.cl (by assumption) rfl | exact ‹Sub _ _› _ _ _ (by assumption)) ?_)
    refine br_dec (fun ha => ?_) (fun ha => ?_)
    · (repeat first | refine ldC ‹Sub _ _› (by assumption) ?_ | refine ld (Cl.cell (by first | assumption | exact Bk.cl (by assumption) rfl)) ?_ | refine ldK (by first | assumption | exact Bk.cl (by assumption) rfl | exact ‹Sub _ _› _ _ _ (by assumption)) ?_)
      exact ⟨_, rfl, ⟨rfl, rfl, rfl, rfl, rfl, rfl, trivial⟩, by simp [Ins.zero, ha], rfl⟩
    · exact ⟨_, rfl, ⟨rfl, rfl, rfl, rfl, rfl, rfl, trivial⟩, by simp [Ins.zero, ha], rfl⟩
  rintro _ _ ⟨rfl, rfl⟩
  obtain ⟨z, hz⟩ : ∃ z, n.zero = z := ⟨_, rfl⟩
  rw [hz]
  have htl := hto.1
  have hto0 : n.to.length = 1 → ∃ b o, an = some ⟨b, o, none⟩ ∧ C b (o + 0 * 1) (.int .i64 (n.to.getD 0 0)) := fun h1 => by
    obtain ⟨y, hy⟩ : ∃ y, n.to[0]? = some y := ⟨n.to[0]'(by omega), by simp⟩
    obtain ⟨b, o, h2, h3, _⟩ := hto.int hy
    exact ⟨b, o, h2, by rw [List.getD_eq_getElem?_getD, hy]; exact h3⟩
  refine ev_of τok ?_
  (repeat first | refine ldC ‹Sub _ _› (by assumption) ?_ | refine ld (Cl.cell (by first | assumption | exact Bk.cl (by assumption) rfl)) ?_ | refine ldK (by first | assumption | exact Bk.cl (by assumption) rfl | exact ‹Sub _ _› _ _ _ (by assumption)) ?_)
  refine br_dec (fun o6 => ?_) (fun o6 => ?_)
  · -- return
    have e1 : RES = if z && decide (n.to.length = 0) && decide (h - fl = 1) then some s else none := by
      rw [← hone, ← hz]
      unfold nextM
      rw [if_pos o6]
      split <;> rfl
    refine br (fun hz1 => ?_) (fun hz1 => ?_)
    · (repeat first | refine ldC ‹Sub _ _› (by assumption) ?_ | refine ld (Cl.cell (by first | assumption | exact Bk.cl (by assumption) rfl)) ?_ | refine ldK (by first | assumption | exact Bk.cl (by assumption) rfl | exact ‹Sub _ _› _ _ _ (by assumption)) ?_)
      refine br_dec (fun h2 => ?_) (fun h2 => ?_)
      · by_cases h3 : h - fl = 1
        · refine ⟨true, by simp [one, h3], hk1w, ?_⟩
          rw [e1, hz1, decide_eq_true (show n.to.length = 0 by omega), decide_eq_true h3]
          exact ⟨rfl, hkk⟩
        · refine ⟨false, by simp [one, h3], hk1w, ?_⟩
          rw [e1, decide_eq_false h3, Bool.and_false]
          rfl
      · exact step_no hk1w (by rw [e1, decide_eq_false (show ¬ n.to.length = 0 by omega), Bool.and_false, Bool.false_and]; rfl)
    · exact step_no hk1w (by rw [e1, hz1]; rfl)
  refine br_dec (fun o13 => ?_) (fun o13 => ?_)
  · -- goto
    have e1 : RES = if z && decide (n.to.length = 1) then goesM code.length i (n.to.getD 0 0, h) s else none := by
      rw [← hone, ← hz]
      unfold nextM
      rw [if_neg o6, if_pos o13]
      split
      · simp [goM]
      · rfl
    refine br (fun hz1 => ?_) (fun hz1 => ?_)
    · (repeat first | refine ldC ‹Sub _ _› (by assumption) ?_ | refine ld (Cl.cell (by first | assumption | exact Bk.cl (by assumption) rfl)) ?_ | refine ldK (by first | assumption | exact Bk.cl (by assumption) rfl | exact ‹Sub _ _› _ _ _ (by assumption)) ?_)
      refine br_dec (fun h2 => ?_) (fun h2 => ?_)
      · obtain ⟨b, o, rfl, hcell⟩ := hto0 (by omega)
        (repeat first | refine ldC ‹Sub _ _› (by assumption) ?_ | refine ld (Cl.cell (by first | assumption | exact Bk.cl (by assumption) rfl)) ?_ | refine ldK (by first | assumption | exact Bk.cl (by assumption) rfl | exact ‹Sub _ _› _ _ _ (by assumption)) ?_)
        refine ix 0 rfl (by omega) ?_
        (repeat first | refine ldC ‹Sub _ _› (by assumption) ?_ | refine ld (Cl.cell (by first | assumption | exact Bk.cl (by assumption) rfl)) ?_ | refine ldK (by first | assumption | exact Bk.cl (by assumption) rfl | exact ‹Sub _ _› _ _ _ (by assumption)) ?_)
        refine ev_call (goes_ct hi hkk i _ h (by omega) (by omega)) ?_
        rintro r w2 ⟨ok, rfl, hk2, hpost⟩
        refine ⟨ok, rfl, hk1w.trans hk2 (fun x hx _ => hx), ?_⟩
        rw [e1, hz1, decide_eq_true (show n.to.length = 1 by omega)]
        exact hpost
      · exact step_no hk1w (by rw [e1, decide_eq_false (show ¬ n.to.length = 1 by omega), Bool.and_false]; rfl)
    · exact step_no hk1w (by rw [e1, hz1]; rfl)
  refine br_dec (fun o11 => ?_) (fun o11 => ?_)
  · -- peel
    have e1 : RES = if z && decide (n.to.length = 1) && decide (1 ≤ h - fl) then (goesM code.length i (n.to.getD 0 0, h - 1) s).bind (goesM code.length i ((i : Int) + 1, h)) else none := by
      rw [← hone, ← hz]
      unfold nextM
      rw [if_neg o6, if_neg o13, if_pos o11]
      split
      · simp [goM]
      · rfl
    refine br (fun hz1 => ?_) (fun hz1 => ?_)
    · (repeat first | refine ldC ‹Sub _ _› (by assumption) ?_ | refine ld (Cl.cell (by first | assumption | exact Bk.cl (by assumption) rfl)) ?_ | refine ldK (by first | assumption | exact Bk.cl (by assumption) rfl | exact ‹Sub _ _› _ _ _ (by assumption)) ?_)
      refine br_dec (fun h2 => ?_) (fun h2 => ?_)
      · refine br_dec (fun h3 => ?_) (fun h3 => ?_)
        · obtain ⟨b, o, rfl, hcell⟩ := hto0 (by omega)
          (repeat first | refine ldC ‹Sub _ _› (by assumption) ?_ | refine ld (Cl.cell (by first | assumption | exact Bk.cl (by assumption) rfl)) ?_ | refine ldK (by first | assumption | exact Bk.cl (by assumption) rfl | exact ‹Sub _ _› _ _ _ (by assumption)) ?_)
          refine ix 0 rfl (by omega) ?_
          (repeat first | refine ldC ‹Sub _ _› (by assumption) ?_ | refine ld (Cl.cell (by first | assumption | exact Bk.cl (by assumption) rfl)) ?_ | refine ldK (by first | assumption | exact Bk.cl (by assumption) rfl | exact ‹Sub _ _› _ _ _ (by assumption)) ?_)
          refine int64 (by omega) (by omega) ?_
          rw [hz1, decide_eq_true (show n.to.length = 1 by omega), decide_eq_true h3] at e1
          refine ev_call (goes_ct hi hkk i _ (h - 1) (by omega) (by omega)) ?_
          rintro r w2 ⟨ok, rfl, hk2, hpost⟩
          have hk2w : Kp [p, hb] w w2 := hk1w.trans hk2 (fun x hx _ => hx)
          cases hg : goesM code.length i (n.to.getD 0 0, h - 1) s with
          | none =>
            rw [hg] at hpost e1
            subst hpost
            exact step_no hk2w e1
          | some s' =>
            rw [hg] at hpost e1
            obtain ⟨rfl, hck'⟩ := hpost
            refine int64 (by omega) (by omega) ?_
            refine ev_call (goes_ct hi hck' i ((i : Int) + 1) h (by omega) (by omega)) ?_
            rintro r w3 ⟨ok, rfl, hk3, hpost⟩
            refine ⟨ok, rfl, hk2w.trans hk3 (fun x hx _ => hx), ?_⟩
            rw [e1]
            exact hpost
        · exact step_no hk1w (by rw [e1, decide_eq_false h3, Bool.and_false]; rfl)
      · exact step_no hk1w (by rw [e1, decide_eq_false (show ¬ n.to.length = 1 by omega), Bool.and_false, Bool.false_and]; rfl)
    · exact step_no hk1w (by rw [e1, hz1]; rfl)
  refine br_dec (fun o9 => ?_) (fun o9 => ?_)
  · -- switch
    have e1 : RES = if 1 ≤ h - fl then (armsM c n h).bind (fun l => goM code.length i l s) else none := by
      rw [← hone]
      unfold nextM
      rw [if_neg o6, if_neg o13, if_neg o11, if_pos o9]
      split <;> rfl
    refine br_dec (fun h3 => ?_) (fun h3 => ?_)
    · refine ldN [.int .i64 n.op, .int .i64 n.a, .int .i64 n.b, .slice an n.to.length tc] rfl (fun j v hj => by rw [Nat.zero_add]; exact hN.cl hj) ?_
      refine ev_call (arms_ct hi hl hkk i n an tc h (by omega) na nb hto) ?_
      rintro r w2 ⟨ok, rfl, hk2, hpost⟩
      refine ⟨ok, rfl, hk1w.trans hk2 (fun x hx _ => hx), ?_⟩
      rw [e1, if_pos h3]
      exact hpost
    · exact step_no hk1w (by rw [e1, if_neg h3])
  -- all others
  refine ldN [.int .i64 n.op, .int .i64 n.a, .int .i64 n.b, .slice an n.to.length tc] rfl (fun j v hj => by rw [Nat.zero_add]; exact hN.cl hj) ?_
  refine ev_call (plain_ct hi hl hkk n an tc h (by omega) na nb) ?_
  rintro r w2 ⟨pp, q, ok, rfl, hk2, hpost⟩
  have e1 : RES = match plainM c n h with
      | some p => if n.to.length = 0 ∧ p ≤ h - fl then goesM code.length i ((i : Int) + 1, h - p + 1) s else none
      | none => none := by
    rw [← hone]
    unfold nextM
    rw [if_neg o6, if_neg o13, if_neg o11, if_neg o9]
    cases plainM c n h with
    | none => rfl
    | some p =>
      simp only
      split
      · simp [goM]
      · rfl
  have hk2w : Kp [p, hb] w w2 := hk1w.trans hk2 (by simp)
  have hN2 := hN.kp hk2 (by simp)
  cases hpl : plainM c n h with
  | none =>
    rw [hpl] at hpost e1
    subst hpost
    exact step_no hk2w e1
  | some k =>
    rw [hpl] at hpost e1
    obtain ⟨rfl, rfl, rfl⟩ := hpost
    have hpos := plainM_pos hco (by omega) hpl
    (repeat first | refine ldC ‹Sub _ _› (by assumption) ?_ | refine ld (Cl.cell (by first | assumption | exact Bk.cl (by assumption) rfl)) ?_ | refine ldK (by first | assumption | exact Bk.cl (by assumption) rfl | exact ‹Sub _ _› _ _ _ (by assumption)) ?_)
    refine br_dec (fun h2 => ?_) (fun h2 => ?_)
    · refine br_dec (fun h3 => ?_) (fun h3 => ?_)
      · have e1 : RES = goesM code.length i ((i : Int) + 1, h - pp + 1) s := by rw [e1]; exact if_pos ⟨by omega, h3⟩
        refine int64 (by omega) (by omega) ?_
        refine int64 (by omega) (by omega) ?_
        refine int64 (by omega) (by omega) ?_
        refine ev_call (goes_ct hi (hkk.kp hk2) i ((i : Int) + 1) (h - pp + 1) (by omega) (by omega)) ?_
        rintro r w3 ⟨ok, rfl, hk3, hpost⟩
        refine ⟨ok, rfl, hk2w.trans hk3 (fun x hx _ => hx), ?_⟩
        rw [e1]
        exact hpost
      · exact step_no hk2w (by rw [e1]; exact if_neg (fun h => h3 h.2))
    · exact step_no hk2w (by rw [e1]; exact if_neg (fun h => h2 (by omega)))
end
end Go.Proofs.Ytjogpbiilokldaa
