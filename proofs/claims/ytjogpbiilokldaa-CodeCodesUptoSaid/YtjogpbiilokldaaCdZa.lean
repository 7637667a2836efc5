/-
  Code: copies: CopyBlock.
-/
import Derived.Test.YtjogpbiilokldaaCdYa
import Derived.Test.YtjogpbiilokldaaWxJ
set_option linter.unusedSimpArgs false
set_option linter.unusedVariables false
namespace Go.Proofs.Ytjogpbiilokldaa
open Go.Wx Cd

theorem copyBlock_ct {C : Mem} {w : World} (hS : Sub C w) (l : List Ins) (a : Option Addr) (cap : Nat) (hl : Sl rIns C a l) :
    CallOk Try.prog 49 ∧ Calls Try.prog 49 #[.slice a l.length cap] w (fun e w' => ∃ v, e = .returned v ∧ Own rIns 45 w.heap.size w' v l ∧ Kp [] w w') := by
  refine ⟨⟨_, Try.func49, rfl, by decide⟩, ?_⟩
  have hlen := hl.1
  refine calls_of (args := [_]) 38 [.tmp 2] τok Try.func49 rfl rfl rfl (Nat.le_of_ble_eq_true rfl) ?_
  refine lp τok (σ := Nat × Value) (fun q => [(0, .slice a l.length cap), (3, q.2), (4, .int .i64 q.1)]) (fun q w' => q.1 ≤ l.length ∧ Own rIns 45 w.heap.size w' q.2 (l.take q.1) ∧ Kp [] w w') (fun q => l.length - q.1) (0, .slice none 0 0) rfl
    ⟨rfl, rfl, rfl, trivial⟩ ⟨Nat.zero_le _, by simpa using Own.nil rIns 45 (Nat.le_refl _), Kp.refl _ _⟩ ?_
  rintro ⟨k, v⟩ w1 ⟨hk, hO, hkp⟩
  simp only at hk hO
  refine br_dec (fun h => ?_) (fun h => ?_)
  · have hlt : k < l.length := by omega
    obtain ⟨n, hn, hd⟩ := drop_get hlt
    obtain ⟨b, o, rfl, an, tc, hto, i1, i2, i3, hcells⟩ := sl_ins hl hn
    have htl := hto.1
    have q0 := hS _ _ _ (hcells 0 _ rfl)
    have q1 := hS _ _ _ (hcells 1 _ rfl)
    have q2 := hS _ _ _ (hcells 2 _ rfl)
    have q3 := hS _ _ _ (hcells 3 _ rfl)
    refine drawG τok (fun w' => Kp [] w w') ?_
    refine readsG τok [0, 1, 2, 3, 4, 5, 6, 7, 8, 9, 10, 11, 12, 13, 14, 15, 17, 18, 19, 20, 21] 6 #[true, true, true, true, true, true, true, true, true, true, true, true, true, true, true, true, false, true, true, true, true, true, false, false, false, false, false] rfl rfl (by kernel_rfl) (by kernel_rfl) (by kernel_rfl) (hkp.dr _) ?_
    refine ix k rfl hlt ?_
    refine ldK q0 ?_
    refine ix k rfl hlt ?_
    refine ldK q1 ?_
    refine ix k rfl hlt ?_
    refine ldK q2 ?_
    refine ix k rfl hlt ?_
    refine ldK q3 ?_
    refine nextG τok 16 5 #[true, true, true, true, true, true, true, true, true, true, true, true, true, true, true, true, true, true, true, true, true, true, false, false, false, false, false] rfl rfl rfl (by kernel_rfl) ?_
    refine fill [] rfl ?_
    refine new fun b2 w2 hb2 hB2 hs2 hk2 => ?_
    have hk2 : Kp [] w1 w2 := hk2.rd
    have hb2 : b2 = w1.heap.size := hb2
    refine ⟨.inl (hkp.tr hk2), ?_⟩
    refine nextG τok 22 4 #[true, true, true, true, true, true, true, true, true, true, true, true, true, true, true, true, true, true, true, true, true, true, true, false, false, false, false] rfl rfl rfl (by kernel_rfl) ?_
    have hO2 : Own rInt 3 w1.heap.size w2 (.slice (some ⟨b2, 0, none⟩) 0 0) [] := Own.empty rInt hB2 (by omega)
    refine hO2.apF τok rfl rfl Nat.one_pos flatI (hS.tr (hkp.tr hk2)) n.to hto (by simp; omega) (by simp [maxLen]; omega) fun v3 w3 hO3 hk3 _ => ?_
    have k13 : Kp [] w1 w3 := hk2.own hk3 hO2
    obtain ⟨a3, c3, rfl, hS3⟩ := Own.den hO3 (by simpa using htl)
    simp only [List.nil_append] at hS3
    refine ⟨.inl (hkp.tr k13), ?_⟩
    refine nextG τok 23 3 #[true, true, true, true, true, true, true, true, true, true, true, true, true, true, true, true, true, true, true, true, true, true, true, true, false, false, false] rfl rfl rfl (by kernel_rfl) ?_
    refine ⟨.inl (hkp.tr k13), ?_⟩
    refine nextG τok 24 2 #[true, true, true, true, true, true, true, true, true, true, true, true, true, true, true, true, true, true, true, true, true, true, true, true, true, false, false] rfl rfl rfl (by kernel_rfl) ?_
    refine fill [.int .i64 n.op, .int .i64 n.a, .int .i64 n.b, .slice a3 n.to.length c3] rfl ?_
    refine new fun b4 w4 hb4 hB4 hs4 hk4 => ?_
    have k14 := k13.tr hk4
    refine ⟨.inl (hkp.tr k14), ?_⟩
    refine nextG τok 25 1 #[true, true, true, true, true, true, true, true, true, true, true, true, true, true, true, true, true, true, true, true, true, true, true, true, true, true, false] rfl rfl rfl (by kernel_rfl) ?_
    have hblk := hO.block
    have htk : l.take (k + 1) = l.take k ++ [n] := take_get hn
    have htl' : (l.take k).length = k := by simp; omega
    refine (hO.kp k14).ap1 τok rfl rfl (by decide) n [.int .i64 n.op, .int .i64 n.a, .int .i64 n.b, .slice a3 n.to.length c3] ⟨a3, c3, rfl, hS3.mono fun b o u hu => ⟨?_, ?_, hu.2.kp hk4 (by simp)⟩, i1, i2, i3⟩ (fun j u hj => by rw [Nat.zero_add]; exact hB4.cl hj) (by rw [htl']; omega) (by rw [htl']; simp only [maxLen]; omega) fun v5 w5 hO5 hk5 _ => ?_
    · have := hu.1; have := hkp.size; omega
    · intro e; have := (hblk b e.symm).2; have := hu.1; omega
    have k05 : Kp [] w w5 := (hkp.tr k14).own hk5 (hO.kp k14)
    refine ⟨.inl k05, ?_⟩
    refine nextG τok 26 0 #[true, true, true, true, true, true, true, true, true, true, true, true, true, true, true, true, true, true, true, true, true, true, true, true, true, true, true] rfl rfl rfl (by kernel_rfl) ?_
    refine ⟨.inl k05, ?_⟩
    refine doneG (by kernel_rfl) ?_
    refine int64 (by (try simp only); omega) (by (try simp only); omega) ?_
    exact ⟨(k + 1, v5), by simp only; omega, rfl, ⟨rfl, rfl, rfl, trivial⟩, hlt, by rw [htk]; exact hO5, k05⟩
  · rw [List.take_of_length_le (by omega)] at hO
    exact ⟨v, rfl, hO, hkp⟩
end Go.Proofs.Ytjogpbiilokldaa
