/-
  Wx: more rules: make, append, slices; rows of integers.
-/
import Derived.Test.YtbgiljognlbkhaaWxQ
namespace Go.Wx

/-- make([]T, n) -/
theorem mk {P : Program} {τ : Tau} (hτ : TauOk P τ) {T e sz bs : Nat} (hs : look τ.slcs T = some (e, sz, bs)) {z : List Value} (hz : τ.zero e = some z) {w : World} {k : Value → World → Prop} {i : Int} (n : Nat) (hi : i = n) (hsz : 0 < z.length) (hn : bs * n ≤ 281474976710656) (h63 : n ≤ 9223372036854775807)
    (hk : ∀ b w', b = w.heap.size → Bk w'.heap b (rep z n) e → w'.heap.size = b + 1 → Kp [] w w' → k (.slice (some ⟨b, 0, none⟩) n n) w') : EvRun P (Instr.makeSlice T (.int .i64 i) (.int .i64 i)) w k := by
  obtain ⟨hu, inf, hinf, hsize, hbytes⟩ := hτ.slcs T e sz bs hs
  obtain ⟨inf', v, hinf', hv, hc, hsz'⟩ := zero_ok hτ hz
  have : inf' = inf := by rw [hinf'] at hinf; simpa using hinf
  subst this
  subst hi
  have hb : (inf'.bytes : Int) * (n : Int) ≤ 281474976710656 := by
    rw [hbytes]
    have : ((bs * n : Nat) : Int) ≤ 281474976710656 := by omega
    rwa [Int.natCast_mul] at this
  have hr := run_make (P := P) w T e inf' v hu hinf' hv .i64 .i64 n n (by omega) (Int.le_refl _) hb (by omega)
  simp only [Int.toNat_natCast] at hr
  refine run hr (hk _ _ rfl ?_ (by simp) (Kp.alloc _ _))
  show (w.heap.push _)[_]? = _
  have hm : madeCells v.cells (n * inf'.size) = (rep z n).toArray := by
    rw [hc, hsz']
    exact rep_range z n hsz
  rw [hm]
  simp

theorem rep_one (x : Value) : ∀ n, rep [x] n = List.replicate n x
  | 0 => rfl
  | n + 1 => by simp [rep, rep_one x n, List.replicate_succ]

/-! ### rows of ints of one's own -/
def RowI (h : Array Obj) (b : Nat) (l : List Int) (T : TypeId) : Prop := Bk h b (l.map (Value.int .i64)) T
theorem RowI.cl {h : Array Obj} {b : Nat} {l : List Int} {T : TypeId} (hb : RowI h b l T) {k : Nat} (hk : k < l.length) : Cl h b (0 + k * 1) (.int .i64 (l.getD k 0)) :=
  Bk.cl hb (by simp [hk])
theorem RowI.kp {X : List Nat} {w w' : World} {b : Nat} {l : List Int} {T : TypeId} (hb : RowI w.heap b l T) (h : Kp X w w') (hx : b ∉ X) : RowI w'.heap b l T := Bk.kp hb h hx
theorem stI {w : World} {b k : Nat} {x : Int} {K : World → Prop} {l : List Int} {T : TypeId} (hb : RowI w.heap b l T) (hk : k < l.length)
    (h : ∀ w', RowI w'.heap b (l.set k x) T → w'.heap.size = w.heap.size → Kp [b] w w' → K w') : EvSt w ⟨b, 0 + k * 1, none⟩ (.int .i64 x) K := by
  refine st hb (by simpa using hk) rfl fun w' hb' hs hkp => h w' ?_ hs hkp
  unfold RowI
  have : (l.set k x).map (Value.int .i64) = (l.map (Value.int .i64)).set (0 + k * 1) (.int .i64 x) := by
    rw [Nat.zero_add, Nat.mul_one, List.map_set]
  rw [this]
  exact hb'

end Go.Wx
