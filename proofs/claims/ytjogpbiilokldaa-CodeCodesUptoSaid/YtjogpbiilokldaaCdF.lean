/-
  Code: block.
-/
import Derived.Test.YtjogpbiilokldaaCdE
set_option linter.unusedSimpArgs false
set_option linter.unusedVariables false
namespace Go.Proofs.Ytjogpbiilokldaa
open Go.Wx Cd

theorem _root_.Go.Wx.Sub.lt {C : Mem} {w : World} (h : Sub C w) : ∀ b o v, C b o v → b < w.heap.size := fun b o v hc => (h b o v hc).lt

def blockV (c : Cod) (code : List Ins) (fl : Int) : Value := .tuple #[.int .i64 ((blockM c code fl).getD 0), .bool (blockM c code fl).isSome]

theorem block_ct {C : Mem} {c : Cod} (code : List Ins) {bc : Nat} {ac : Option Addr} {cc : Nat} {fl : Int} {w : World} (hS : Sub C w) (hcod : rCod.At C bc 0 c) (hcode : Sl rIns C ac code) (hco : CodOk c) (hlen : code.length ≤ 1048576) (hf : 0 ≤ fl ∧ fl ≤ 256) :
    CallOk Try.prog 27 ∧ Calls Try.prog 27 #[.pointer (some ⟨bc, 0, none⟩), .slice ac code.length cc, .int .i64 fl] w (fun e w' => e = .returned (blockV c code fl) ∧ Kp [] w w') := by
  obtain ⟨RES, hRES⟩ : ∃ r, blockM c code fl = r := ⟨_, rfl⟩
  unfold blockV
  rw [hRES]
  refine ⟨⟨_, Try.func27, rfl, by decide⟩, ?_⟩
  refine calls_of (args := [_, _, _]) 53 [.tmp 6, .tmp 7] τok Try.func27 rfl rfl rfl (Nat.le_of_ble_eq_true rfl) ?_
  refine br_dec (fun h0 => ?_) (fun h0 => ?_)
  · have : RES = none := by rw [← hRES]; unfold blockM; rw [if_pos (by omega)]
    subst this
    exact ⟨rfl, Kp.refl _ _⟩
  have h0 : 0 < code.length := by omega
  refine fill [.int .i64 (-1)] rfl ?_
  refine new fun b1 w1 hb1 hB1 hs1 hk1 => ?_
  refine ev_call (repeat_ct code.length (by omega) h0 (-1) b1 1 w1 (hB1.cl rfl)) ?_
  rintro e w2 ⟨hb, rfl, hhb, hR2, hk2⟩
  have hk12 := hk1.tr hk2
  refine new fun p w3 hp hP hs3 hk3 => ?_
  have hP : Bk w3.heap p (ckCells bc ac code.length cc fl hb code.length fl) 113 := hP
  have hP' : Bk w3.heap p [.pointer (some ⟨bc, 0, none⟩), .slice ac code.length cc, .int .i64 fl, .slice (some ⟨hb, 0, none⟩) code.length code.length, .int .i64 fl] 113 := hP
  have hR3 := hR2.kp hk3 (by simp)
  have hbl := Bk.lt hR2
  have hsz1 := hk1.size
  have hsz2 := hk2.size
  refine ld (hP'.cl rfl).cell ?_
  refine ix 0 rfl h0 ?_
  refine stI hR3 (by simpa using h0) fun w4 hR4 hs4 hk4 => ?_
  have hk13 := hk12.tr hk3
  have hP4 := hP.kp hk4 (by simp; omega)
  have hk14 : Kp [] w w4 := hk13.trans hk4 (fun x hx hl => by simp at hx; omega)
  have hi : CkIn C c code p bc hb ac := ⟨hcod, hcode, fun b o v hc => by have := hS.lt b o v hc; omega, by omega⟩
  have e0 : (List.replicate code.length (-1 : Int)).set 0 fl = fl :: List.replicate (code.length - 1) (-1) := by
    cases hq : code.length with
    | zero => omega
    | succ m => simp [List.replicate_succ]
  rw [e0] at hR4
  have hblk : RES = blkM c code.length fl 0 code (fl :: List.replicate (code.length - 1) (-1), fl) := by
    rw [← hRES]; unfold blockM; rw [if_neg (by omega)]
  refine lp τok (σ := Nat × (List Int × Int)) (fun q => [(8, .pointer (some ⟨p, 0, none⟩)), (30, .int .i64 code.length), (31, .int .i64 q.1)])
    (fun q w' => q.1 ≤ code.length ∧ Ck C bc hb ac code.length cc fl code.length p q.2 w' ∧ Kp [] w w' ∧ RES = blkM c code.length fl q.1 (code.drop q.1) q.2 ∧ Hb fl (256 + q.1 * 1099511627776) q.2) (fun q => code.length - q.1)
    (0, fl :: List.replicate (code.length - 1) (-1), fl) rfl ⟨rfl, rfl, rfl, trivial⟩ ⟨Nat.zero_le _, ⟨hS.tr hk14, hP4, hR4, by simp; omega⟩, hk14, hblk, ?_⟩ ?_
  · refine ⟨fun x hx => ?_, by simp, by simp; omega⟩
    simp at hx
    rcases hx with rfl | ⟨_, rfl⟩
    · right; simp; omega
    · left; rfl
  rintro ⟨k, st⟩ w5 ⟨hk5, hck, hkp, hres, hhb2⟩
  simp only at hk5 hck hres hhb2
  refine br_dec (fun hlt => ?_) (fun hlt => ?_)
  · have hlt : k < code.length := by omega
    obtain ⟨n, hn, hdn⟩ := drop_get hlt
    have hB5 : Bk w5.heap p [.pointer (some ⟨bc, 0, none⟩), .slice ac code.length cc, .int .i64 fl, .slice (some ⟨hb, 0, none⟩) code.length code.length, .int .i64 st.2] 113 := hck.blk
    have hkl : k < st.1.length := by rw [hck.len]; exact hlt
    have hcl := RowI.cl hck.row hkl
    rw [hdn] at hres
    simp only [blkM] at hres
    refine ld (hB5.cl rfl).cell ?_
    refine ix k rfl hlt ?_
    refine ld hcl.cell ?_
    refine br_dec (fun hm => ?_) (fun hm => ?_)
    · have : RES = none := by rw [hres]; exact if_pos hm
      subst this
      exact ⟨rfl, hkp⟩
    rw [if_neg hm] at hres
    have hmem := hhb2.1 _ (getD_mem0 hkl)
    have hg : fl ≤ st.1.getD k 0 ∧ st.1.getD k 0 ≤ 2305843009213693952 := by
      rcases hmem with h | h
      · exact absurd h hm
      · refine ⟨h.1, ?_⟩
        have : (k : Int) * 1099511627776 ≤ 1048576 * 1099511627776 := Int.mul_le_mul_of_nonneg_right (by omega) (by omega)
        omega
    refine ev_call (one_ct hi hco hck k n hn hlen hf.1 hg hf.2) ?_
    rintro r w6 ⟨ok, rfl, hk6, hpost⟩
    have hk6' : Kp [] w w6 := hkp.trans hk6 (fun x hx hl => by simp at hx; omega)
    cases ho : oneM c code.length fl k n st with
    | none =>
      rw [ho] at hpost hres
      subst hpost
      have : RES = none := hres
      subst this
      exact ⟨rfl, hk6'⟩
    | some st' =>
      rw [ho] at hpost hres
      obtain ⟨rfl, hck'⟩ := hpost
      refine int64 (by omega) (by omega) ?_
      refine ⟨(k + 1, st'), by simp only; omega, rfl, ⟨rfl, rfl, rfl, trivial⟩, hlt, hck', hk6', hres, ?_⟩
      simp only [oneM] at ho
      cases hnx : nextM c k n (st.1.getD k 0) fl with
      | none => rw [hnx] at ho; cases ho
      | some l =>
        rw [hnx] at ho
        have hbd := nextM_bd hco hg.1 hf.1 hnx
        have hB' : (256 + ((k : Nat) : Int) * 1099511627776) + 1099511627776 = 256 + ((k + 1 : Nat) : Int) * 1099511627776 := by
          rw [Int.natCast_add, Int.add_mul]; omega
        have hle : st.1.getD k 0 ≤ 256 + ((k : Nat) : Int) * 1099511627776 := by
          rcases hmem with h | h
          · exact absurd h hm
          · exact h.2
        refine (goM_hb (B := 256 + ((k + 1 : Nat) : Int) * 1099511627776) ho (hhb2.mono (by omega)) fun t ht => ?_).1
        have := hbd t ht
        omega
  · have hB5 : Bk w5.heap p [.pointer (some ⟨bc, 0, none⟩), .slice ac code.length cc, .int .i64 fl, .slice (some ⟨hb, 0, none⟩) code.length code.length, .int .i64 st.2] 113 := hck.blk
    refine ld (hB5.cl rfl).cell ?_
    rw [List.drop_eq_nil_of_le (by omega)] at hres
    have : RES = some st.2 := hres
    subst this
    exact ⟨rfl, hkp⟩
end Go.Proofs.Ytjogpbiilokldaa
