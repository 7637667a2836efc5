/-
  Levels: the walks of the reference's functions.
-/
import Derived.Test.YtbgiljognlbkhaaLvX
import Derived.Test.YtbgiljognlbkhaaWxS
set_option linter.unusedSimpArgs false
set_option linter.unusedVariables false
namespace Go.Proofs.Ytbgiljognlbkhaa
open Go.Wx Lv

/-! ### from -/
def FromPost (n : Nat) (os : List Order) (low : Nat) (w : World) (e : Ending) (w' : World) : Prop :=
  Kp [] w w' ∧ match fromF n os low with
    | none => e = .returned (.tuple #[.slice none 0 0, .bool false])
    | some d => ∃ b, e = .returned (.tuple #[.slice (some ⟨b, 0, none⟩) n n, .bool true]) ∧ RowI w'.heap b d 3 ∧ d.length = n ∧ w.heap.size ≤ b

theorem rng_snoc {α : Type} (f : Nat → α → α) (k : Nat) (a : α) : rng f (k + 1) a = f k (rng f k a) := rfl

set_option maxHeartbeats 1000000 in
theorem from_ct (vars : Int) (n : Nat) (hn : (n : Int) = vars + 1) (hn17 : n ≤ 17) (os : List Order) (hg : Lv.Good n os) (hl : os.length ≤ 64) (low : Nat) (hlow : low < n) (a : Option Addr) (cap : Nat) (w : World) (hv : Orders w.heap.size w.heap a os) :
    CallOk Try.prog 38 ∧ Calls Try.prog 38 #[.int .i64 vars, .slice a os.length cap, .int .i64 low] w (FromPost n os low w) := by
  refine ⟨⟨_, Try.func38, rfl, by decide⟩, ?_⟩
  refine calls_of (args := [_, _, _]) 107 [.tmp 6, .tmp 7] τok Try.func38 rfl rfl rfl (Nat.le_of_ble_eq_true rfl) ?_
  refine int64 (by omega) (by omega) ?_
  refine mk τok (T := 23) rfl (z := [.int .i64 0]) rfl n (by omega) (by decide) (by omega) (by omega) fun bd w1 hbd hB1 hs1 hk1 => ?_
  have hbw : w.heap.size ≤ bd := by omega
  have hB1' : RowI w1.heap bd (List.replicate n 0) 3 := by
    unfold RowI; rw [List.map_replicate, ← rep_one]; exact hB1
  -- fill
  refine loop τok (σ := Nat) (fun k => [(0, .int .i64 vars), (1, .slice a os.length cap), (2, .int .i64 low), (8, .slice (some ⟨bd, 0, none⟩) n n), (9, .int .i64 k)])
    (fun k w' => k ≤ n ∧ RowI w'.heap bd (List.replicate k non ++ List.replicate (n - k) 0) 3 ∧ Kp [] w w') (fun k => n - k) 0 ⟨rfl, rfl, rfl, rfl, rfl, trivial⟩ ⟨Nat.zero_le _, by simpa using hB1', hk1⟩ ?_
  rintro k w2 ⟨hk, hB2, hk2⟩
  refine br_dec (fun h1 => ?_) (fun h1 => ?_)
  · have hlt : k < n := by omega
    refine ix k rfl hlt ?_
    refine stI hB2 (by simp; omega) fun w3 hB3 hs3 hk3 => ?_
    refine int64 (by omega) (by omega) ?_
    refine ⟨k + 1, by omega, rfl, ⟨rfl, rfl, rfl, rfl, rfl, trivial⟩, hlt, ?_, Kp.own hk2 hk3 hbw⟩
    have e : (List.replicate k non ++ List.replicate (n - k) 0).set k non = List.replicate (k + 1) non ++ List.replicate (n - (k + 1)) 0 := by
      rw [List.set_append_right _ _ (by simp)]
      rw [show n - k = (n - (k + 1)) + 1 by omega, List.replicate_succ, List.replicate_succ']
      simp
    rw [← e]
    exact hB3
  obtain rfl : k = n := by omega
  have hB2' : RowI w2.heap bd (List.replicate k non) 3 := by simpa using hB2
  clear hB2 h1 hk
  refine ix low rfl hlow ?_
  refine stI hB2' (by simpa using hlow) fun w3 hB3 hs3 hk3 => ?_
  have hk3' := Kp.own hk2 hk3 hbw
  clear hB2' hs3 hk3 hk2 hB1 hB1' hs1 hk1 hbd
  obtain ⟨n, rfl⟩ : ∃ n, n = k := ⟨k, rfl⟩
  obtain ⟨hi0, h00⟩ := ini_inv os hlow
  -- rounds
  refine loop τok (σ := Nat × List Int) (fun x => [(0, .int .i64 vars), (1, .slice a os.length cap), (8, .slice (some ⟨bd, 0, none⟩) n n), (10, .int .i64 x.1)])
    (fun x w' => x.1 ≤ n + 1 ∧ RowI w'.heap bd x.2 3 ∧ fromF n os low = fromGo n os (n + 1 - x.1) x.2 ∧ Inv n os low (64000 * x.1) x.2 ∧ Kp [] w w') (fun x => n + 1 - x.1) (0, (List.replicate n non).set low 0) ⟨rfl, rfl, rfl, rfl, trivial⟩
    ⟨Nat.zero_le _, hB3, rfl, by simpa using hi0, hk3'⟩ ?_
  clear hB3 hk3' w3 hi0 h00
  rintro ⟨r, d⟩ w3 ⟨hr, hB3, hfr, hi, hk3⟩
  simp only at hr hB3 hfr hi
  refine int64 (by omega) (by omega) ?_
  refine br_dec (fun h2 => ?_) (fun h2 => ?_)
  · have hrn : r < n + 1 := by omega
    have hdl := hi.len
    -- the first half
    refine loop τok (σ := Nat) (fun k => [(0, .int .i64 vars), (1, .slice a os.length cap), (8, .slice (some ⟨bd, 0, none⟩) n n), (10, .int .i64 r), (11, .bool (rng zStep k (d, false)).2), (12, .int .i64 k)])
      (fun k w' => k ≤ n ∧ RowI w'.heap bd (rng zStep k (d, false)).1 3 ∧ Kp [] w w') (fun k => n - k) 0 ⟨rfl, rfl, rfl, rfl, rfl, rfl, trivial⟩ ⟨Nat.zero_le _, hB3, hk3⟩ ?_
    rintro k w4 ⟨hk, hB4, hk4⟩
    refine br_dec (fun h3 => ?_) (fun h3 => ?_)
    · have hlt : k < n := by omega
      obtain ⟨i1, _⟩ := zs_inv hi (by omega) k (by omega)
      have hsn := rng_snoc zStep k (d, false)
      obtain ⟨s, hs⟩ : ∃ s, s = rng zStep k (d, false) := ⟨_, rfl⟩
      rw [← hs] at hB4 i1 hsn ⊢
      have hsl := i1.len
      refine drawR τok (by kernel_rfl) ?_
      refine ix 0 rfl (by omega) ?_
      refine ldR (hB4.cl (by omega)) ?_
      refine br_dec (fun c1 => ?_) (fun c1 => ?_)
      · refine ix k rfl hlt ?_
        refine ldR (hB4.cl (by omega)) ?_
        refine ix 0 rfl (by omega) ?_
        refine ldR (hB4.cl (by omega)) ?_
        refine fun m => ?_
        refine br_dec (fun c2 => ?_) (fun c2 => ?_)
        · have hz : zStep k s = (s.1.set k (s.1.getD 0 0), true) := by unfold zStep; rw [if_pos ⟨c1, c2⟩]
          refine ix 0 rfl (by omega) ?_
          refine ld (Cl.cell (w := { w4 with drawn := m }) (hB4.cl (by omega))) ?_
          refine ix k rfl hlt ?_
          refine stI (w := { w4 with drawn := m }) hB4 (by omega) fun w5 hB5 hs5 hk5 => ?_
          refine int64 (by omega) (by omega) ?_
          exact ⟨k + 1, by omega, rfl, ⟨rfl, rfl, rfl, rfl, by rw [hsn, hz]; rfl, rfl, trivial⟩, hlt, by rw [hsn, hz]; exact hB5, Kp.own hk4 hk5.rd hbw⟩
        · have hz : zStep k s = s := by unfold zStep; rw [if_neg (fun h => c2 h.2)]
          refine int64 (by omega) (by omega) ?_
          exact ⟨k + 1, by omega, rfl, ⟨rfl, rfl, rfl, rfl, by rw [hsn, hz]; rfl, rfl, trivial⟩, hlt, by rw [hsn, hz]; exact hB4, hk4.dr m⟩
      · refine fun m => ?_
        have hz : zStep k s = s := by unfold zStep; rw [if_neg (fun h => c1 h.1)]
        refine int64 (by omega) (by omega) ?_
        exact ⟨k + 1, by omega, rfl, ⟨rfl, rfl, rfl, rfl, by rw [hsn, hz]; rfl, rfl, trivial⟩, hlt, by rw [hsn, hz]; exact hB4, hk4.dr m⟩
    · obtain rfl : k = n := by omega
      obtain ⟨i1, _⟩ := zs_inv hi (by omega) k (by omega)
      obtain ⟨s0, hs0⟩ : ∃ s0, s0 = rng zStep k (d, false) := ⟨_, rfl⟩
      rw [← hs0] at hB4 i1 ⊢
      have hround : round k os d = os.foldl oStep s0 := by rw [hs0]; rfl
      -- the orders
      refine loop τok (σ := Nat) (fun j => [(0, .int .i64 vars), (1, .slice a os.length cap), (8, .slice (some ⟨bd, 0, none⟩) k k), (10, .int .i64 r), (11, .bool ((os.take j).foldl oStep s0).2), (13, .int .i64 j)])
        (fun j w' => j ≤ os.length ∧ RowI w'.heap bd ((os.take j).foldl oStep s0).1 3 ∧ Kp [] w w') (fun j => os.length - j) 0 ⟨rfl, rfl, rfl, rfl, by simp; rfl, rfl, trivial⟩ ⟨Nat.zero_le _, by simpa using hB4, hk4⟩ ?_
      rintro j w5 ⟨hj, hB5, hk5⟩
      refine br_dec (fun h4 => ?_) (fun h4 => ?_)
      · have hlt : j < os.length := by omega
        obtain ⟨x, hx⟩ : ∃ x, x = os.getD j default := ⟨_, rfl⟩
        have hxm : x ∈ os := hx ▸ getD_mem os j hlt
        obtain ⟨gl, gh, ga1, ga2⟩ := hg x hxm
        unfold Rg at gl gh
        have htk : (os.take (j + 1)).foldl oStep s0 = oStep ((os.take j).foldl oStep s0) x := by
          rw [List.take_succ_eq_append_getElem hlt, List.foldl_append]
          simp [hx, hlt]
        have hlen : (os.take j).length ≤ 64 := by simp; omega
        obtain ⟨i2, _⟩ := os_inv hg (os.take j) (64000 * r) s0 (fun o ho => List.mem_of_mem_take ho) i1 (by omega)
        obtain ⟨s, hs⟩ : ∃ s, s = (os.take j).foldl oStep s0 := ⟨_, rfl⟩
        rw [← hs] at hB5 i2 htk ⊢
        have hsl := i2.len
        have hbl := i2.bd x.low.toNat (by omega)
        have hbh := i2.bd x.high.toNat (by omega)
        unfold gt at hbl hbh
        rcases hv.1 with h0 | ⟨b, o, rfl, hb, hcc⟩
        · omega
        have hc0 := (hcc j 0 hlt (by omega)).kp hk5 (by simp)
        have hc1 := (hcc j 1 hlt (by omega)).kp hk5 (by simp)
        have hc2 := (hcc j 2 hlt (by omega)).kp hk5 (by simp)
        simp only [if_true, if_false, Nat.one_ne_zero, ← hx] at hc0 hc1 hc2
        refine ix j rfl hlt ?_
        refine ldN [.int .i64 x.low, .int .i64 x.add, .int .i64 x.high] rfl (at3 hc0 hc1 hc2) ?_
        refine new fun b6 w6 hb6 hB6 hs6 hk6 => ?_
        refine stN hB6 rfl (by simp [Value.oneCell']) fun w7 hB7 hs7 hk7 => ?_
        have hk57 := hk6.newSt hb6 hk7
        have hk7' := hk5.tr hk57
        have hR7 : RowI w7.heap bd s.1 3 := hB5.kp hk57 (by simp)
        have hne : b6 ≠ bd := by have := Bk.lt hB5; omega
        refine drawR τok (by kernel_rfl) ?_
        refine ldR (hB7.cl rfl) ?_
        refine ix x.low.toNat (by omega) (by omega) ?_
        refine ldR (hR7.cl (by omega)) ?_
        refine br_dec (fun c1 => ?_) (fun c1 => ?_)
        · have c1' : s.1.getD x.low.toNat 0 ≠ non := c1
          have hbl' := hbl.resolve_left c1'
          refine ldR (hB7.cl rfl) ?_
          refine ix x.high.toNat (by omega) (by omega) ?_
          refine ldR (hR7.cl (by omega)) ?_
          refine ldR (hB7.cl rfl) ?_
          refine ix x.low.toNat (by omega) (by omega) ?_
          refine ldR (hR7.cl (by omega)) ?_
          refine ldR (hB7.cl rfl) ?_
          refine int64 (by omega) (by omega) ?_
          refine fun m => ?_
          refine br_dec (fun c2 => ?_) (fun c2 => ?_)
          · have hz : oStep s x = (s.1.set x.high.toNat (s.1.getD x.low.toNat 0 + x.add), true) := by unfold oStep; rw [if_pos ⟨c1, c2⟩]
            refine drawT τok 11 _ _ rfl rfl (by kernel_rfl) ?_
            refine ldS (w := { w7 with drawn := m + 1 }) (hB7.cl rfl) ?_
            refine ldS (w := { w7 with drawn := m + 1 }) (hB7.cl rfl) ?_
            refine ix x.low.toNat (by omega) (by omega) ?_
            refine ldS (w := { w7 with drawn := m + 1 }) (hR7.cl (by omega)) ?_
            refine ldS (w := { w7 with drawn := m + 1 }) (hB7.cl rfl) ?_
            refine int64 (by omega) (by omega) ?_
            refine ix x.high.toNat (by omega) (by omega) ?_
            refine stI (w := { w7 with drawn := m + 1 }) hR7 (by omega) fun w8 hB8 hs8 hk8 => ?_
            refine int64 (by omega) (by omega) ?_
            exact ⟨j + 1, by omega, rfl, ⟨rfl, rfl, rfl, rfl, by rw [htk, hz]; rfl, rfl, trivial⟩, hlt, by rw [htk, hz]; exact hB8, Kp.own hk7' hk8.rd hbw⟩
          · have hz : oStep s x = s := by unfold oStep; rw [if_neg (fun h => c2 h.2)]
            refine int64 (by omega) (by omega) ?_
            exact ⟨j + 1, by omega, rfl, ⟨rfl, rfl, rfl, rfl, by rw [htk, hz]; rfl, rfl, trivial⟩, hlt, by rw [htk, hz]; exact hR7, hk7'.dr m⟩
        · refine fun m => ?_
          have hz : oStep s x = s := by unfold oStep; rw [if_neg (fun h => c1 h.1)]
          refine int64 (by omega) (by omega) ?_
          exact ⟨j + 1, by omega, rfl, ⟨rfl, rfl, rfl, rfl, by rw [htk, hz]; rfl, rfl, trivial⟩, hlt, by rw [htk, hz]; exact hR7, hk7'.dr m⟩
      · obtain rfl : j = os.length := by omega
        rw [List.take_length] at hB5 ⊢
        rw [← hround] at hB5 ⊢
        have hstep : fromF k os low = if (round k os d).2 then fromGo k os (k + 1 - (r + 1)) (round k os d).1 else some (round k os d).1 := by
          rw [hfr, show k + 1 - r = (k + 1 - (r + 1)) + 1 by omega]; rfl
        obtain ⟨j1, _⟩ := round_spec hg hi (by omega)
        refine br (fun c => ?_) (fun c => ?_)
        · have c' : (round k os d).2 = false := by simpa using c
          rw [c'] at hstep
          refine ⟨hk5, ?_⟩
          rw [hstep]
          exact ⟨bd, rfl, hB5, j1.len, hbw⟩
        · have c' : (round k os d).2 = true := by simpa using c
          rw [c'] at hstep
          refine int64 (by omega) (by omega) ?_
          exact ⟨(r + 1, (round k os d).1), by simp only; omega, rfl, ⟨rfl, rfl, rfl, rfl, trivial⟩, by simp only; omega, hB5, hstep, j1.mono (by omega), hk5⟩
  · obtain rfl : r = n + 1 := by omega
    refine ⟨hk3, ?_⟩
    rw [hfr, Nat.sub_self]
    rfl

/-! ### Right, as the reference does it -/
theorem rightGo_ref {l : List Atom} {vars : Int} {k : Nat} (hk : k < l.length) {last : Int} (hl : last = if k = 0 then -1 else (l.getD (k - 1) default).var) (h : rightF l vars = rightGo vars (l.drop k) last) {x : Atom} (hx : x = l.getD k default) :
    (x.var < 0 ∨ vars < x.var ∨ x.add < 0 ∨ 1000 < x.add → 0 ≤ last ∨ k = 0 → rightF l vars = false) := by
  intro h1 h2
  rw [h, drop_cons l k hk, ← hx]
  simp only [rightGo]
  rw [if_pos]
  rcases h2 with h2 | h2
  · omega
  · rw [if_pos h2] at hl; omega

theorem rightR_ct (l : List Atom) (a : Option Addr) (cap : Nat) (vars : Int) (w : World) {N : Nat} (hv : Atoms N w.heap a l) :
    CallOk Try.prog 32 ∧ Calls Try.prog 32 #[.slice a l.length cap, .int .i64 vars] w (fun e w' => e = .returned (.bool (rightF l vars)) ∧ Kp [] w w') := by
  refine ⟨⟨_, Try.func32, rfl, by decide⟩, ?_⟩
  refine calls_of (args := [_, _]) 75 [.tmp 4] τok Try.func32 rfl rfl rfl (Nat.le_of_ble_eq_true rfl) ?_
  have no : vars < 0 ∨ 16 < vars ∨ l.length < 1 ∨ 4 < l.length → rightF l vars = false := fun h => by unfold rightF; rw [if_pos h]
  refine br_dec (fun h1 => ?_) (fun h1 => ?_)
  · exact ⟨by rw [no (by omega)]; rfl, Kp.refl _ _⟩
  refine br_dec (fun h2 => ?_) (fun h2 => ?_)
  · exact ⟨by rw [no (by omega)]; rfl, Kp.refl _ _⟩
  refine br_dec (fun h3 => ?_) (fun h3 => ?_)
  · exact ⟨by rw [no (by omega)]; rfl, Kp.refl _ _⟩
  refine br_dec (fun h4 => ?_) (fun h4 => ?_)
  · exact ⟨by rw [no (by omega)]; rfl, Kp.refl _ _⟩
  rcases hv.1 with h0 | ⟨b, o, rfl, hb, hc⟩
  · omega
  refine loop τok (σ := Nat) (fun k => [(0, .slice (some ⟨b, o, none⟩) l.length cap), (1, .int .i64 vars), (5, .int .i64 k)])
    (fun k w' => k ≤ l.length ∧ (∃ last, last = (if k = 0 then -1 else (l.getD (k - 1) default).var) ∧ (k ≠ 0 → 0 ≤ last) ∧ rightF l vars = rightGo vars (l.drop k) last) ∧ Kp [] w w') (fun k => l.length - k) 0 ⟨rfl, rfl, rfl, trivial⟩
    ⟨Nat.zero_le _, ⟨-1, rfl, fun h => absurd rfl h, by unfold rightF; rw [if_neg (by omega)]; rfl⟩, Kp.refl _ _⟩ ?_
  rintro k w1 ⟨hk, ⟨last, hlast, hpos, hr⟩, hkp⟩
  refine br_dec (fun h5 => ?_) (fun h5 => ?_)
  · have hlt : k < l.length := by omega
    obtain ⟨x, hx⟩ : ∃ x, x = l.getD k default := ⟨_, rfl⟩
    have hc0 := (hc k 0 hlt (by omega)).kp hkp (by simp)
    have hc1 := (hc k 1 hlt (by omega)).kp hkp (by simp)
    simp only [if_true, if_false, Nat.one_ne_zero, ← hx] at hc0 hc1
    have bad : x.var < 0 ∨ vars < x.var ∨ x.add < 0 ∨ 1000 < x.add → rightF l vars = false := fun h => rightGo_ref hlt hlast hr hx h (by
      by_cases e : k = 0
      · exact .inr e
      · exact .inl (hpos e))
    refine ix k rfl hlt ?_
    refine ld hc0.cell ?_
    refine br_dec (fun c1 => ?_) (fun c1 => ?_)
    · exact ⟨by rw [bad (by omega)]; rfl, hkp⟩
    refine ix k rfl hlt ?_
    refine ld hc0.cell ?_
    refine br_dec (fun c2 => ?_) (fun c2 => ?_)
    · exact ⟨by rw [bad (by omega)]; rfl, hkp⟩
    refine ix k rfl hlt ?_
    refine ld hc1.cell ?_
    refine br_dec (fun c3 => ?_) (fun c3 => ?_)
    · exact ⟨by rw [bad (by omega)]; rfl, hkp⟩
    refine ix k rfl hlt ?_
    refine ld hc1.cell ?_
    refine br_dec (fun c4 => ?_) (fun c4 => ?_)
    · exact ⟨by rw [bad (by omega)]; rfl, hkp⟩
    have hnext : ∀ w', ¬ x.var ≤ last → Kp [] w w' → (∃ last', last' = (if k + 1 = 0 then -1 else (l.getD (k + 1 - 1) default).var) ∧ (k + 1 ≠ 0 → 0 ≤ last') ∧ rightF l vars = rightGo vars (l.drop (k + 1)) last') ∧ Kp [] w w' := fun w' h hk' => by
      refine ⟨⟨x.var, by rw [if_neg (by omega), Nat.add_sub_cancel, hx], fun _ => by omega, ?_⟩, hk'⟩
      rw [hr, drop_cons l k hlt, ← hx]
      simp only [rightGo]
      rw [if_neg (by omega)]
    refine drawR τok (by kernel_rfl) ?_
    refine br_dec (fun c5 => ?_) (fun c5 => ?_)
    · have hk0 : k ≠ 0 := by omega
      obtain ⟨y, hy⟩ : ∃ y, y = l.getD (k - 1) default := ⟨_, rfl⟩
      have hly : last = y.var := by rw [hlast, if_neg hk0, hy]
      have hd0 := (hc (k - 1) 0 (by omega) (by omega)).kp hkp (by simp)
      simp only [if_true, ← hy] at hd0
      refine ix k rfl hlt ?_
      refine ldR hc0 ?_
      refine int64 (by omega) (by omega) ?_
      refine ix (k - 1) (by omega) (by omega) ?_
      refine ldR hd0 ?_
      refine fun m => ?_
      refine br_dec (fun c6 => ?_) (fun c6 => ?_)
      · refine ⟨?_, hkp.dr m⟩
        have : rightF l vars = false := by
          rw [hr, drop_cons l k hlt, ← hx]
          simp only [rightGo]
          rw [if_pos (by omega)]
        rw [this]; rfl
      · refine int64 (by omega) (by omega) ?_
        exact ⟨k + 1, by omega, rfl, ⟨rfl, rfl, rfl, trivial⟩, hlt, hnext _ (by omega) (hkp.dr m)⟩
    · refine fun m => ?_
      obtain rfl : k = 0 := by omega
      refine int64 (by omega) (by omega) ?_
      exact ⟨1, by omega, rfl, ⟨rfl, rfl, rfl, trivial⟩, hlt, hnext _ (by rw [if_pos rfl] at hlast; omega) (hkp.dr m)⟩
  · refine ⟨?_, hkp⟩
    rw [hr, List.drop_eq_nil_of_le (by omega)]
    rfl

/-! ### Check -/
theorem all_snoc (p : Nat → Bool) (k : Nat) : (List.range (k + 1)).all p = ((List.range k).all p && p k) := by
  rw [List.range_succ, List.all_append]; simp

theorem checkR_ct (vars : Int) (os : List Order) (a : Option Addr) (cap : Nat) (w : World) (hv : Orders w.heap.size w.heap a os) :
    CallOk Try.prog 37 ∧ Calls Try.prog 37 #[.int .i64 vars, .slice a os.length cap] w (fun e w' => e = .returned (.int .i64 (checkR vars os)) ∧ Kp [] w w') := by
  refine ⟨⟨_, Try.func37, rfl, by decide⟩, ?_⟩
  refine calls_of (args := [_, _]) 73 [.tmp 4] τok Try.func37 rfl rfl rfl (Nat.le_of_ble_eq_true rfl) ?_
  refine br_dec (fun h1 => ?_) (fun h1 => ?_)
  · exact ⟨by unfold checkR; rw [if_pos (by omega)]; rfl, Kp.refl _ _⟩
  refine br_dec (fun h2 => ?_) (fun h2 => ?_)
  · exact ⟨by unfold checkR; rw [if_pos (by omega)]; rfl, Kp.refl _ _⟩
  refine br_dec (fun h3 => ?_) (fun h3 => ?_)
  · exact ⟨by unfold checkR; rw [if_neg (by omega), if_pos (by omega)]; rfl, Kp.refl _ _⟩
  have hck : checkR vars os = if os.any (badOrd vars) then 1 else if (List.range (vars.toNat + 1)).all (fun v => (fromF (vars.toNat + 1) os v).isSome) then 0 else 7 := by
    unfold checkR; rw [if_neg (by omega), if_neg (by omega)]
  refine loop τok (σ := Nat) (fun k => [(0, .int .i64 vars), (1, .slice a os.length cap), (5, .int .i64 k)])
    (fun k w' => k ≤ os.length ∧ os.any (badOrd vars) = (os.drop k).any (badOrd vars) ∧ Kp [] w w') (fun k => os.length - k) 0 ⟨rfl, rfl, rfl, trivial⟩ ⟨Nat.zero_le _, rfl, Kp.refl _ _⟩ ?_
  rintro k w3 ⟨hk, hany, hk3⟩
  refine br_dec (fun h5 => ?_) (fun h5 => ?_)
  · have hlt : k < os.length := by omega
    obtain ⟨x, hx⟩ : ∃ x, x = os.getD k default := ⟨_, rfl⟩
    have hany' : os.any (badOrd vars) = (badOrd vars x || (os.drop (k + 1)).any (badOrd vars)) := by
      rw [hany, drop_cons os k hlt, ← hx]; rfl
    rcases hv.1 with h0 | ⟨b, o, rfl, hb, hc⟩
    · omega
    have hc0 := (hc k 0 hlt (by omega)).kp hk3 (by simp)
    have hc1 := (hc k 1 hlt (by omega)).kp hk3 (by simp)
    have hc2 := (hc k 2 hlt (by omega)).kp hk3 (by simp)
    simp only [if_true, if_false, Nat.one_ne_zero, ← hx] at hc0 hc1 hc2
    refine ix k rfl hlt ?_
    refine ldN [.int .i64 x.low, .int .i64 x.add, .int .i64 x.high] rfl (at3 hc0 hc1 hc2) ?_
    refine new fun b4 w4 hb4 hB4 hs4 hk4 => ?_
    refine stN hB4 rfl (by simp [Value.oneCell']) fun w5 hB5 hs5 hk5 => ?_
    have hk5' := hk3.tr (hk4.newSt hb4 hk5)
    have bad : badOrd vars x = true → checkR vars os = 1 := fun h => by rw [hck, hany', h]; rfl
    refine ld (hB5.cl rfl).cell ?_
    refine br_dec (fun c1 => ?_) (fun c1 => ?_)
    · exact ⟨by rw [bad (by unfold badOrd; exact decide_eq_true (by omega))]; rfl, hk5'⟩
    refine ld (hB5.cl rfl).cell ?_
    refine br_dec (fun c2 => ?_) (fun c2 => ?_)
    · exact ⟨by rw [bad (by unfold badOrd; exact decide_eq_true (by omega))]; rfl, hk5'⟩
    refine ld (hB5.cl rfl).cell ?_
    refine br_dec (fun c3 => ?_) (fun c3 => ?_)
    · exact ⟨by rw [bad (by unfold badOrd; exact decide_eq_true (by omega))]; rfl, hk5'⟩
    refine ld (hB5.cl rfl).cell ?_
    refine br_dec (fun c4 => ?_) (fun c4 => ?_)
    · exact ⟨by rw [bad (by unfold badOrd; exact decide_eq_true (by omega))]; rfl, hk5'⟩
    refine ld (hB5.cl rfl).cell ?_
    refine br_dec (fun c5 => ?_) (fun c5 => ?_)
    · exact ⟨by rw [bad (by unfold badOrd; exact decide_eq_true (by omega))]; rfl, hk5'⟩
    refine ld (hB5.cl rfl).cell ?_
    refine br_dec (fun c6 => ?_) (fun c6 => ?_)
    · exact ⟨by rw [bad (by unfold badOrd; exact decide_eq_true (by omega))]; rfl, hk5'⟩
    have ok : badOrd vars x = false := by unfold badOrd; exact decide_eq_false (by omega)
    rw [ok, Bool.false_or] at hany'
    refine int64 (by omega) (by omega) ?_
    exact ⟨k + 1, by omega, rfl, ⟨rfl, rfl, rfl, trivial⟩, by omega, hany', hk5'⟩
  have hany' : os.any (badOrd vars) = false := by rw [hany, List.drop_eq_nil_of_le (by omega)]; rfl
  rw [hany'] at hck
  simp only [Bool.false_eq_true, if_false] at hck
  obtain ⟨n, hn⟩ : ∃ n, n = vars.toNat + 1 := ⟨_, rfl⟩
  rw [← hn] at hck
  have hg : Lv.Good n os := by rw [hn]; exact good_of (by omega) hany'
  refine loop τok (σ := Nat) (fun k => [(0, .int .i64 vars), (1, .slice a os.length cap), (7, .int .i64 k)])
    (fun k w' => k ≤ n ∧ ((List.range k).all fun v => (fromF n os v).isSome) = true ∧ Kp [] w w') (fun k => n - k) 0 ⟨rfl, rfl, rfl, trivial⟩ ⟨Nat.zero_le _, rfl, hk3⟩ ?_
  rintro v w4 ⟨hvn, hall, hk4⟩
  refine br_dec (fun h6 => ?_) (fun h6 => ?_)
  · have hlt : v < n := by omega
    refine ev_call (from_ct vars n (by omega) (by omega) os hg (by omega) v hlt a cap w4 (hv.kp hk4 hk4.size)) ?_
    rintro e w5 ⟨hk5, hpost⟩
    cases hf : fromF n os v with
    | none =>
      rw [hf] at hpost
      simp only at hpost
      subst hpost
      refine ⟨?_, hk4.tr hk5⟩
      have : ((List.range n).all fun v => (fromF n os v).isSome) = false := by
        rw [List.all_eq_false]
        exact ⟨v, List.mem_range.2 hlt, by simp [hf]⟩
      rw [hck, this]; rfl
    | some d =>
      rw [hf] at hpost
      obtain ⟨b, rfl, _⟩ := hpost
      refine int64 (by omega) (by omega) ?_
      exact ⟨v + 1, by omega, rfl, ⟨rfl, rfl, rfl, trivial⟩, hlt, by rw [all_snoc, hall, hf]; rfl, hk4.tr hk5⟩
  · obtain rfl : v = n := by omega
    exact ⟨by rw [hck, hall]; rfl, hk4⟩

/-! ### Under, as the reference does it -/
def okR (d : List Int) (x y : Atom) : Bool := decide (gt d y.var.toNat ≠ non ∧ x.add ≤ gt d y.var.toNat + y.add)
def underR (vars : Int) (os : List Order) (a b : List Atom) : Bool :=
  decide (checkR vars os = 0) && rightF a vars && rightF b vars && a.all fun x => match fromF (vars.toNat + 1) os x.var.toNat with
    | none => false
    | some d => b.any (okR d x)

theorem any_snoc (p : Atom → Bool) (l : List Atom) (k : Nat) (h : k < l.length) : (l.take (k + 1)).any p = ((l.take k).any p || p (l.getD k default)) := by
  rw [List.take_succ_eq_append_getElem h, List.any_append]
  simp [h]
end Go.Proofs.Ytbgiljognlbkhaa
