/-
  Code: rows of pairs of ints ([][2]int).
-/
import Derived.Test.YtjogpbiilokldaaCdZc
set_option linter.unusedSimpArgs false
set_option linter.unusedVariables false
namespace Go.Wx
/-- two ints side by side -/
def rPair : Rd (Int × Int) where
  sz := 2
  den _ cs x := cs = [.int .i64 x.1, .int .i64 x.2] ∧ I64 x.1 ∧ I64 x.2
  len := by rintro _ cs x ⟨rfl, _⟩; rfl
  mono := by rintro _ _ cs x _ h; exact h
  one := by rintro _ cs x ⟨rfl, _⟩ u hu; simp at hu; rcases hu with rfl | rfl <;> rfl
theorem flatP : Flat rPair := fun _ _ _ _ h => h
theorem sl_pair {C : Mem} {a : Option Addr} {l : List (Int × Int)} (h : Sl rPair C a l) {i : Nat} {x : Int × Int} (hi : l[i]? = some x) : ∃ b o, a = some ⟨b, o, none⟩ ∧ C b (o + i * 2) (.int .i64 x.1) ∧ C b (o + i * 2 + 1) (.int .i64 x.2) ∧ I64 x.1 ∧ I64 x.2 := by
  obtain ⟨b, o, ha, hc⟩ := h.at (get_lt hi)
  obtain ⟨cs, ⟨rfl, h1, h2⟩, h5⟩ := hc i x hi
  exact ⟨b, o, ha, h5 0 _ rfl, h5 1 _ rfl, h1, h2⟩
end Go.Wx
namespace Go.Proofs.Ytjogpbiilokldaa
open Go.Wx Cd

theorem pair_under : Try.prog.underlying 108 = some (.array 2 3) := by kernel_rfl
theorem pairs_under : Try.prog.underlying 105 = some (.slice 108) := by kernel_rfl
theorem pair_info : ∃ i v, Try.prog.info? 108 = some i ∧ i.zero = some v ∧ v.cells = #[.int .i64 0, .int .i64 0] ∧ i.size = 2 ∧ i.bytes = 16 := by
  have h : (Try.prog.info? 108).map (fun i => (i.size, i.bytes, i.zero)) = some (2, 16, some (.agg #[.int .i64 0, .int .i64 0])) := by kernel_rfl
  cases hi : Try.prog.info? 108 with
  | none => rw [hi] at h; cases h
  | some i =>
    rw [hi] at h
    simp only [Option.map_some, Option.some.injEq, Prod.mk.injEq] at h
    exact ⟨i, _, rfl, h.2.2, rfl, h.1, h.2.1⟩
theorem int_size (w : World) : (sizeOf 3).run Try.prog w = .ok 1 w := by
  have h : (Try.prog.info? 3).map (fun i => i.size) = some 1 := by kernel_rfl
  cases hi : Try.prog.info? 3 with
  | none => rw [hi] at h; cases h
  | some i =>
    rw [hi] at h
    simp only [Option.map_some, Option.some.injEq] at h
    simp [sizeOf, typeInfo, hi, h]

section
variable {w : World} {k : Value → World → Prop}
theorem pair_build (x y : Int) (h : k (.agg #[.int .i64 x, .int .i64 y]) w) : EvRun Try.prog (Instr.build 108 #[(0, .int .i64 x), (1, .int .i64 y)]) w k := by
  obtain ⟨i, v, h1, h2, h3, h4, h5⟩ := pair_info
  refine run ?_ h
  have hz : (zeroValue 108).run Try.prog w = .ok v w := by simp [zeroValue, typeInfo, h1, h2]
  simp only [Instr.build, Sem.run_bind, hz, Result.andThen_ok, run_underlying pair_under, int_size, h3]
  rfl

theorem pair_at {b o : Nat} (j : Nat) (hj : j < 2) {i : Int} (hi : i = j) (h : k (.pointer (some ⟨b, o + j, none⟩)) w) : EvRun Try.prog (Instr.indexAt 108 (.pointer (some ⟨b, o, none⟩)) (.int .i64 i)) w k := by
  subst hi
  refine run ?_ h
  simp only [Instr.indexAt, asIntOf, Sem.run_bind, Sem.run_pure, Result.andThen_ok, run_underlying pair_under, Instr.sureAddr]
  rw [if_pos (by omega)]
  simp only [Sem.run_bind, int_size, Result.andThen_ok, Sem.run_pure, Int.toNat_natCast, Nat.mul_one, add_off]

theorem pair_lit (l : List (Int × Int)) (hl : l.length = 1 ∨ l.length = 2) (hk : ∀ (b : Nat) (w' : World), b = w.heap.size → Bk w'.heap b (l.flatMap fun x => [.int .i64 x.1, .int .i64 x.2]) 108 → w'.heap.size = b + 1 → Kp [] w w' → k (.slice (some ⟨b, 0, none⟩) l.length l.length) w') :
    EvRun Try.prog (Instr.buildSlice 105 l.length ((l.zipIdx.map fun x => (x.2, Value.agg #[.int .i64 x.1.1, .int .i64 x.1.2])).toArray)) w k := by
  obtain ⟨i, v, h1, h2, h3, h4, h5⟩ := pair_info
  have hz : (zeroValue 108).run Try.prog w = .ok v w := by simp [zeroValue, typeInfo, h1, h2]
  have hs : (sizeOf 108).run Try.prog w = .ok 2 w := by simp [sizeOf, typeInfo, h1, h4]
  refine run (w' := w.alloc (.cells (l.flatMap fun x => [.int .i64 x.1, .int .i64 x.2]).toArray 108)) (v := .slice (some ⟨w.heap.size, 0, none⟩) l.length l.length) ?_ (hk _ _ rfl ?_ ?_ (Kp.alloc _ _))
  · rcases hl with hl | hl
    · match l, hl with
      | [x], _ =>
        have hc : fillL (fun i => some (i * 2, 2)) (rep [.int .i64 0, .int .i64 0] 1) [(0, .agg #[.int .i64 x.1, .int .i64 x.2])] = some [.int .i64 x.1, .int .i64 x.2] := rfl
        have hf := fillL_fill _ _ _ hc
        have hr := rep_range [.int .i64 0, .int .i64 0] 1 (by simp)
        simp only [Instr.buildSlice, Sem.run_bind, run_underlying pairs_under, Result.andThen_ok, hs]
        rw [if_neg (by simp)]
        rw [Sem.run_ite, if_neg (by simp)]
        simp only [Sem.run_bind, hz, Result.andThen_ok, Sem.run_pure, h3]
        have hr' : (Array.range ([x].length * 2)).map (fun y => (#[Value.int .i64 0, .int .i64 0] : Array Value)[y % (#[Value.int .i64 0, .int .i64 0] : Array Value).size]!) = (rep [.int .i64 0, .int .i64 0] 1).toArray := hr
        rw [hr']
        have hf' : Instr.fill (fun i => some (i * 2, 2)) (rep [.int .i64 0, .int .i64 0] 1).toArray ((List.map (fun x : (Int × Int) × Nat => (x.2, Value.agg #[.int .i64 x.1.1, .int .i64 x.1.2])) [x].zipIdx).toArray.toList) = some #[.int .i64 x.1, .int .i64 x.2] := hf
        rw [hf']
        simp [newRow]
    · match l, hl with
      | [x, y], _ =>
        have hc : fillL (fun i => some (i * 2, 2)) (rep [.int .i64 0, .int .i64 0] 2) [(0, .agg #[.int .i64 x.1, .int .i64 x.2]), (1, .agg #[.int .i64 y.1, .int .i64 y.2])] = some [.int .i64 x.1, .int .i64 x.2, .int .i64 y.1, .int .i64 y.2] := rfl
        have hf := fillL_fill _ _ _ hc
        have hr := rep_range [.int .i64 0, .int .i64 0] 2 (by simp)
        simp only [Instr.buildSlice, Sem.run_bind, run_underlying pairs_under, Result.andThen_ok, hs]
        rw [if_neg (by simp)]
        rw [Sem.run_ite, if_neg (by simp)]
        simp only [Sem.run_bind, hz, Result.andThen_ok, Sem.run_pure, h3]
        have hr' : (Array.range ([x, y].length * 2)).map (fun y => (#[Value.int .i64 0, .int .i64 0] : Array Value)[y % (#[Value.int .i64 0, .int .i64 0] : Array Value).size]!) = (rep [.int .i64 0, .int .i64 0] 2).toArray := hr
        rw [hr']
        have hf' : Instr.fill (fun i => some (i * 2, 2)) (rep [.int .i64 0, .int .i64 0] 2).toArray ((List.map (fun x : (Int × Int) × Nat => (x.2, Value.agg #[.int .i64 x.1.1, .int .i64 x.1.2])) [x, y].zipIdx).toArray.toList) = some #[.int .i64 x.1, .int .i64 x.2, .int .i64 y.1, .int .i64 y.2] := hf
        rw [hf']
        simp [newRow]
  · unfold Bk
    show (w.heap.push _)[_]? = _
    simp
  · show (w.heap.push _).size = _
    simp

/-- one pair more -/
theorem pair_ap {lo b c ty : Nat} {v : Value} {l : List (Int × Int)} (h : Own rPair 108 lo w v l) (x : Int × Int) (hx : I64 x.1 ∧ I64 x.2) (hB : Bk w.heap b [.int .i64 x.1, .int .i64 x.2] 108) (hl : l.length ≤ 1099511627776)
    (hk : ∀ v' w', Own rPair 108 lo w' v' (l ++ [x]) → Kp v.ownBlock.toList w w' → k v' w') : EvRun Try.prog (Builtin.append_ #[105, 105] ty #[v, .slice (some ⟨b, 0, none⟩) 1 c]) w k := by
  obtain ⟨i, z, g1, g2, g3, g4, g5⟩ := pair_info
  obtain ⟨⟨css0, h1, h2⟩, hbase⟩ := h
  obtain ⟨v', w', hr, ho, hg, _, hblk⟩ := run_append_own_at (P := Try.prog) w lo 105 ty 108 i z 2 16 pairs_under g1 g2 g4 g5 (by rw [g3]; rfl) (by omega) v l.length css0.flatten h1 ⟨b, 0, none⟩ 1 c [.int .i64 x.1, .int .i64 x.2] rfl
    (fun j u hj => by rw [add_off, Nat.zero_add]; exact (hB.cl hj).cell) (by simp [Value.oneCell']) (by simp only [maxLen]; omega) (by omega) hbase
  have hkp := grown_kp hg
  refine run hr (hk v' w' ⟨⟨css0 ++ [[.int .i64 x.1, .int .i64 x.2]], ?_, ?_⟩, Nat.le_trans hbase hkp.size⟩ hkp)
  · rw [List.flatten_append, List.length_append]
    exact ho
  · exact (h2.mono fun cs y hy => hy).append ⟨⟨rfl, hx.1, hx.2⟩, trivial⟩
end
end Go.Proofs.Ytjogpbiilokldaa
