/-
  Wx: rules for bits, shifts, unsigned numbers; copy.
-/
import Derived.Test.YtbgiljognlbkhaaWxH
import Derived.Laws.CopyRow
set_option linter.unusedSimpArgs false
set_option linter.unusedVariables false
namespace Go.Wx

theorem wrap64 {x : Int} (h0 : 0 ≤ x) (h : x < 18446744073709551616) : IntKind.wrap .u64 x = x := by
  simp only [IntKind.wrap, IntKind.bits, IntKind.signed]
  simp
  omega
theorem wrap8 {x : Int} (h0 : 0 ≤ x) (h : x < 256) : IntKind.wrap .u8 x = x := by
  simp only [IntKind.wrap, IntKind.bits, IntKind.signed]
  simp
  omega
theorem wrap8' (x : Int) : IntKind.wrap .u8 x = x % 256 := by
  simp only [IntKind.wrap, IntKind.bits, IntKind.signed]
  simp

section
variable {P : Program} {k : Value → World → Prop} {kq : Value → Prop} {C : World → Prop} {t : TypeId} {w : World}
theorem and64_run {x y : Nat} (hx : x < 18446744073709551616) (hy : y < 18446744073709551616) (w : World) : (binOp .and t (.int .u64 (x : Int)) (.int .u64 (y : Int))).run P w = .ok (.int .u64 ((x &&& y : Nat) : Int)) w := by
  have h1 : (x &&& y) ≤ x := Nat.and_le_left
  have e : (BitVec.ofInt 64 (x : Int) &&& BitVec.ofInt 64 (y : Int)).toNat = x &&& y := by
    rw [BitVec.toNat_and]
    simp only [BitVec.ofInt_natCast, BitVec.toNat_ofNat]
    rw [Nat.mod_eq_of_lt (by omega), Nat.mod_eq_of_lt (by omega)]
  have := wrap64 (x := ((x &&& y : Nat) : Int)) (by omega) (by omega)
  simp only [binOp_and, Op.intBits, IntKind.bits, Sem.run_pure]
  exact congrArg (fun z => Result.ok z w) (congrArg _ ((congrArg (fun n : Nat => IntKind.wrap _ (n : Int)) e).trans this))
theorem and8_run {x y : Nat} (hx : x < 256) (hy : y < 256) (w : World) : (binOp .and t (.int .u8 (x : Int)) (.int .u8 (y : Int))).run P w = .ok (.int .u8 ((x &&& y : Nat) : Int)) w := by
  have h1 : (x &&& y) ≤ x := Nat.and_le_left
  have e : (BitVec.ofInt 8 (x : Int) &&& BitVec.ofInt 8 (y : Int)).toNat = x &&& y := by
    rw [BitVec.toNat_and]
    simp only [BitVec.ofInt_natCast, BitVec.toNat_ofNat]
    rw [Nat.mod_eq_of_lt (by omega), Nat.mod_eq_of_lt (by omega)]
  have := wrap8 (x := ((x &&& y : Nat) : Int)) (by omega) (by omega)
  simp only [binOp_and, Op.intBits, IntKind.bits, Sem.run_pure]
  exact congrArg (fun z => Result.ok z w) (congrArg _ ((congrArg (fun n : Nat => IntKind.wrap _ (n : Int)) e).trans this))
theorem or8_run {x y : Nat} (hx : x < 256) (hy : y < 256) (w : World) : (binOp .or t (.int .u8 (x : Int)) (.int .u8 (y : Int))).run P w = .ok (.int .u8 ((x ||| y : Nat) : Int)) w := by
  have h1 : (x ||| y) < 2 ^ 8 := Nat.or_lt_two_pow (by omega) (by omega)
  have e : (BitVec.ofInt 8 (x : Int) ||| BitVec.ofInt 8 (y : Int)).toNat = x ||| y := by
    rw [BitVec.toNat_or]
    simp only [BitVec.ofInt_natCast, BitVec.toNat_ofNat]
    rw [Nat.mod_eq_of_lt (by omega), Nat.mod_eq_of_lt (by omega)]
  have := wrap8 (x := ((x ||| y : Nat) : Int)) (by omega) (by omega)
  simp only [binOp_or, Op.intBits, IntKind.bits, Sem.run_pure]
  exact congrArg (fun z => Result.ok z w) (congrArg _ ((congrArg (fun n : Nat => IntKind.wrap _ (n : Int)) e).trans this))
theorem shr64_run {x n : Nat} {j : IntKind} (hn : n ≤ 64) (w : World) : (binOp .shr t (.int .u64 (x : Int)) (.int j (n : Int))).run P w = .ok (.int .u64 ((x / 2 ^ n : Nat) : Int)) w := by
  simp only [binOp_shr, Op.shift, IntKind.bits]
  rw [if_neg (by omega)]
  simp only [Int.toNat_natCast, Sem.run_pure]
  rw [Nat.min_eq_left hn, Int.fdiv_eq_ediv_of_nonneg _ (by exact Int.le_of_lt (Int.pow_pos (by omega)))]
  simp
theorem shl64_run {x n : Nat} {j : IntKind} (hn : n ≤ 64) (w : World) : (binOp .shl t (.int .u64 (x : Int)) (.int j (n : Int))).run P w = .ok (.int .u64 (((x * 2 ^ n) % 18446744073709551616 : Nat) : Int)) w := by
  simp only [binOp_shl, Op.shift, IntKind.bits]
  rw [if_neg (by omega)]
  simp only [Int.toNat_natCast, Sem.run_pure]
  rw [Nat.min_eq_left hn]
  congr 2
theorem u64 {r : Int} {k : Value → Prop} (h1 : 0 ≤ r) (h2 : r < 18446744073709551616) (hk : k (.int .u64 r)) : EvInt .u64 r k := intv r (wrap64 h1 h2) hk

theorem and64 {x y : Nat} (z : Nat) (hx : x < 18446744073709551616) (hy : y < 18446744073709551616) (hz : x &&& y = z) (h : k (.int .u64 (z : Int)) w) : EvRun P (binOp .and t (.int .u64 (x : Int)) (.int .u64 (y : Int))) w k := by
  subst hz
  exact run (and64_run hx hy w) h
theorem and8 {x y : Nat} (z : Nat) (hx : x < 256) (hy : y < 256) (hz : x &&& y = z) (h : k (.int .u8 (z : Int)) w) : EvRun P (binOp .and t (.int .u8 (x : Int)) (.int .u8 (y : Int))) w k := by
  subst hz
  exact run (and8_run hx hy w) h
theorem or8 {x y : Nat} (z : Nat) (hx : x < 256) (hy : y < 256) (hz : x ||| y = z) (h : k (.int .u8 (z : Int)) w) : EvRun P (binOp .or t (.int .u8 (x : Int)) (.int .u8 (y : Int))) w k := by
  subst hz
  exact run (or8_run hx hy w) h
theorem shr64 {x n : Nat} {j : IntKind} (z : Nat) (hn : n ≤ 64) (hz : x / 2 ^ n = z) (h : k (.int .u64 (z : Int)) w) : EvRun P (binOp .shr t (.int .u64 (x : Int)) (.int j (n : Int))) w k := by
  subst hz
  exact run (shr64_run hn w) h
theorem shl64 {x n : Nat} {j : IntKind} (z : Nat) (hn : n ≤ 64) (hz : x * 2 ^ n % 18446744073709551616 = z) (h : k (.int .u64 (z : Int)) w) : EvRun P (binOp .shl t (.int .u64 (x : Int)) (.int j (n : Int))) w k := by
  subst hz
  exact run (shl64_run hn w) h
/-- an unsigned number, by a name -/
theorem u64n {r : Int} {k : Value → Prop} (z : Nat) (hz : z < 18446744073709551616) (he : r = z) (hk : k (.int .u64 (z : Int))) : EvInt .u64 r k := by
  subst he
  exact intv _ (wrap64 (by omega) (by omega)) hk

theorem sliced_lo {b o l h cap sz : Nat} (hl : l < cap) : sliced (some ⟨b, o, none⟩) l h cap sz = .slice (some ⟨b, o + l * sz, none⟩) (h - l) (cap - l) := by
  simp only [sliced, if_neg (show ¬ cap = l by omega), Option.map_some, add_off]
theorem sliced_hi {b o h cap sz : Nat} : sliced (some ⟨b, o, none⟩) 0 h cap sz = .slice (some ⟨b, o, none⟩) h cap := by
  simp only [sliced, Option.map_some, add_off, Nat.zero_mul, Nat.add_zero, Nat.sub_zero]
  split <;> rfl
section
variable {τ : Tau} (hτ : TauOk P τ) {T e sz bs : Nat} (hs : look τ.slcs T = some (e, sz, bs)) {a : Option Addr} {len cap : Nat}
include hτ hs
theorem slcLQ {j : IntKind} {i : Int} (l : Nat) (v : Value) (hi : i = l) (hl : l ≤ len) (hv : sliced a l len cap sz = v) (hk : kq v) : EvRunQ P C (Instr.sliceAt T (.slice a len cap) (some (.int j i)) none none) kq := by
  obtain ⟨hu, hz⟩ := slc_elem hτ hs
  subst hi hv
  refine runQ (fun w _ => ?_) hk
  rw [run_sliceAt_slice w T _ _ _ _ hu, run_slice_l w T a len cap hu j l (by omega) (by omega), hz]
  simp
theorem slcHQ {j : IntKind} {i : Int} (h : Nat) (v : Value) (hi : i = h) (hl : h ≤ cap) (hv : sliced a 0 h cap sz = v) (hk : kq v) : EvRunQ P C (Instr.sliceAt T (.slice a len cap) none (some (.int j i)) none) kq := by
  obtain ⟨hu, hz⟩ := slc_elem hτ hs
  subst hi hv
  refine runQ (fun w _ => ?_) hk
  rw [run_sliceAt_slice w T _ _ _ _ hu, run_slice_h w T a len cap hu j h (by omega) (by omega), hz]
  simp
theorem slcL' {j : IntKind} {i : Int} (l : Nat) (v : Value) (hi : i = l) (hl : l ≤ len) (hv : sliced a l len cap sz = v) (hk : k v w) : EvRun P (Instr.sliceAt T (.slice a len cap) (some (.int j i)) none none) w k := by
  subst hv
  exact slcL hτ hs l hi hl hk
theorem slcH' {j : IntKind} {i : Int} (h : Nat) (v : Value) (hi : i = h) (hl : h ≤ cap) (hv : sliced a 0 h cap sz = v) (hk : k v w) : EvRun P (Instr.sliceAt T (.slice a len cap) none (some (.int j i)) none) w k := by
  subst hv
  exact slcH hτ hs h hi hl hk
end

/-- copy into a row of ints of one's own -/
theorem copyI {τ : Tau} (hτ : TauOk P τ) {T e bs : Nat} (hs : look τ.slcs T = some (e, 1, bs)) {ty g o dl dc b o2 sl sc : Nat} {l : List Int} (xs : List Int) (hb : RowI w.heap g l e) (hn : xs.length = min sl dl) (hsrc : ∀ (j : Nat) x, xs[j]? = some x → Cl w.heap b (o2 + j) (.int .i64 x)) (hfit : o + xs.length ≤ l.length)
    (h : ∀ w', RowI w'.heap g (l.take o ++ xs ++ l.drop (o + xs.length)) e → w'.heap.size = w.heap.size → Kp [g] w w' → k (.int .i64 xs.length) w') : EvRun P (Builtin.copy_ #[T, T] ty #[.slice (some ⟨g, o, none⟩) dl dc, .slice (some ⟨b, o2, none⟩) sl sc]) w k := by
  obtain ⟨hu, inf, hinf, hsize, hbs⟩ := hτ.slcs T e 1 bs hs
  have hr := run_copy_row (P := P) w T T ty e g o dl dc ⟨b, o2, none⟩ sl sc ((l.map (Value.int .i64)).toArray) e (xs.map (Value.int .i64)) hu (by simp [hinf, hsize]) hb (by simpa using hn)
    (fun j v hj => by
      rw [List.getElem?_map] at hj
      cases hx : xs[j]? with
      | none => rw [hx] at hj; cases hj
      | some x =>
        rw [hx] at hj
        have hj : Value.int .i64 x = v := by simpa using hj
        subst hj
        rw [add_off]
        exact (hsrc j x hx).cell) (by simpa using hfit) (by simp [Value.oneCell'])
  refine run hr ?_
  have hg : g < w.heap.size := Bk.lt hb
  have e1 : goInt (xs.map (Value.int .i64)).length = .int .i64 xs.length := by simp [goInt]
  rw [e1]
  refine h _ ?_ (by simp [World.setRow]) ⟨rfl, rfl, rfl, by simp [World.setRow], fun i hi hx => ?_⟩
  · have hb' : w.heap[g]? = some (.cells (l.map (Value.int .i64)).toArray e (0, 0)) := hb
    unfold RowI Bk
    simp only [World.setRow, Array.getElem?_modify, if_true, hb']
    simp
  · have hx : i ≠ g := by simpa using hx
    simp only [World.setRow, Array.getElem?_modify]
    rw [if_neg (fun e => hx e.symm)]
end
end Go.Wx
