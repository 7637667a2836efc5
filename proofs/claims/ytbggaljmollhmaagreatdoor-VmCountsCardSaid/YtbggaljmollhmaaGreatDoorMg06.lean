/-
  Own texts put together: CdF, CdG, TrA, CdH, CdI.
-/
import Derived.Test.YtbggaljmollhmaaGreatDoorMg05
/-
  Code: block.
-/
set_option linter.unusedSimpArgs false
set_option linter.unusedVariables false
namespace Go.Proofs.YtbggaljmollhmaaGreatDoor
open Go.Wx Cd

def blockV (c : Cod) (code : List Ins) (fl : Int) : Value := .tuple #[.int .i64 ((blockM c code fl).getD 0), .bool (blockM c code fl).isSome]

theorem block_ct {C : Mem} {c : Cod} (code : List Ins) {bc : Nat} {ac : Option Addr} {cc : Nat} {fl : Int} {w : World} (hS : Sub C w) (hcod : rCod.At C bc 0 c) (hcode : Sl rIns C ac code) (hco : CodOk c) (hlen : code.length ≤ 1048576) (hf : 0 ≤ fl ∧ fl ≤ 256) :
    CallOk Tryz.prog 61 ∧ Calls Tryz.prog 61 #[.pointer (some ⟨bc, 0, none⟩), .slice ac code.length cc, .int .i64 fl] w (fun e w' => e = .returned (blockV c code fl) ∧ Kp [] w w') := by
  obtain ⟨RES, hRES⟩ : ∃ r, blockM c code fl = r := ⟨_, rfl⟩
  unfold blockV
  rw [hRES]
  refine ⟨⟨_, Tryz.func61, rfl, by decide⟩, ?_⟩
  refine calls_of (args := [_, _, _]) 53 [.tmp 6, .tmp 7] τok Tryz.func61 rfl rfl rfl (Nat.le_of_ble_eq_true rfl) ?_
  refine br_dec (fun h0 => ?_) (fun h0 => ?_)
  · have : RES = none := by rw [← hRES]; unfold blockM; rw [if_pos (by omega)]
    subst this
    exact ⟨rfl, Kp.refl _ _⟩
  have h0 : 0 < code.length := by omega
  refine fill [.int .i64 (-1)] rfl ?_
  refine new fun b1 w1 hb1 hB1 hs1 hk1 => ?_
  refine ev_call (repeat_ct code.length (by omega) h0 (-1) b1 1 w1 (hB1.cl rfl)) ?_
  rintro e w2 ⟨hb, rfl, hhb, hR2, hk2⟩
  have hk12 := hk1.tr hk2
  refine new fun p w3 hp hP hs3 hk3 => ?_
  have hP : Bk w3.heap p (ckCells bc ac code.length cc fl hb code.length fl) 179 := hP
  have hP' : Bk w3.heap p [.pointer (some ⟨bc, 0, none⟩), .slice ac code.length cc, .int .i64 fl, .slice (some ⟨hb, 0, none⟩) code.length code.length, .int .i64 fl] 179 := hP
  have hR3 := hR2.kp hk3 (by simp)
  have hbl := Bk.lt hR2
  have hsz1 := hk1.size
  have hsz2 := hk2.size
  refine ld (hP'.cl rfl).cell ?_
  refine ix 0 rfl h0 ?_
  refine stI hR3 (by simpa using h0) fun w4 hR4 hs4 hk4 => ?_
  have hk13 := hk12.tr hk3
  have hP4 := hP.kp hk4 (by simp; omega)
  have hk14 : Kp [] w w4 := hk13.trans hk4 (fun x hx hl => by simp at hx; omega)
  have hi : CkIn C c code p bc hb ac := ⟨hcod, hcode, fun b o v hc => by have := hS.lt b o v hc; omega, by omega⟩
  have e0 : (List.replicate code.length (-1 : Int)).set 0 fl = fl :: List.replicate (code.length - 1) (-1) := by
    cases hq : code.length with
    | zero => omega
    | succ m => simp [List.replicate_succ]
  rw [e0] at hR4
  have hblk : RES = blkM c code.length fl 0 code (fl :: List.replicate (code.length - 1) (-1), fl) := by
    rw [← hRES]; unfold blockM; rw [if_neg (by omega)]
  refine lp τok (σ := Nat × (List Int × Int)) (fun q => [(8, .pointer (some ⟨p, 0, none⟩)), (30, .int .i64 code.length), (31, .int .i64 q.1)])
    (fun q w' => q.1 ≤ code.length ∧ Ck C bc hb ac code.length cc fl code.length p q.2 w' ∧ Kp [] w w' ∧ RES = blkM c code.length fl q.1 (code.drop q.1) q.2 ∧ Hb fl (256 + q.1 * 1099511627776) q.2) (fun q => code.length - q.1)
    (0, fl :: List.replicate (code.length - 1) (-1), fl) rfl ⟨rfl, rfl, rfl, trivial⟩ ⟨Nat.zero_le _, ⟨hS.tr hk14, hP4, hR4, by simp; omega⟩, hk14, hblk, ?_⟩ ?_
  · refine ⟨fun x hx => ?_, by simp, by simp; omega⟩
    simp at hx
    rcases hx with rfl | ⟨_, rfl⟩
    · right; simp; omega
    · left; rfl
  rintro ⟨k, st⟩ w5 ⟨hk5, hck, hkp, hres, hhb2⟩
  simp only at hk5 hck hres hhb2
  refine br_dec (fun hlt => ?_) (fun hlt => ?_)
  · have hlt : k < code.length := by omega
    obtain ⟨n, hn, hdn⟩ := drop_get hlt
    have hB5 : Bk w5.heap p [.pointer (some ⟨bc, 0, none⟩), .slice ac code.length cc, .int .i64 fl, .slice (some ⟨hb, 0, none⟩) code.length code.length, .int .i64 st.2] 179 := hck.blk
    have hkl : k < st.1.length := by rw [hck.len]; exact hlt
    have hcl := RowI.cl hck.row hkl
    rw [hdn] at hres
    simp only [blkM] at hres
    refine ld (hB5.cl rfl).cell ?_
    refine ix k rfl hlt ?_
    refine ld hcl.cell ?_
    refine br_dec (fun hm => ?_) (fun hm => ?_)
    · have : RES = none := by rw [hres]; exact if_pos hm
      subst this
      exact ⟨rfl, hkp⟩
    rw [if_neg hm] at hres
    have hmem := hhb2.1 _ (getD_mem0 hkl)
    have hg : fl ≤ st.1.getD k 0 ∧ st.1.getD k 0 ≤ 2305843009213693952 := by
      rcases hmem with h | h
      · exact absurd h hm
      · refine ⟨h.1, ?_⟩
        have : (k : Int) * 1099511627776 ≤ 1048576 * 1099511627776 := Int.mul_le_mul_of_nonneg_right (by omega) (by omega)
        omega
    refine ev_call (one_ct hi hco hck k n hn hlen hf.1 hg hf.2) ?_
    rintro r w6 ⟨ok, rfl, hk6, hpost⟩
    have hk6' : Kp [] w w6 := hkp.trans hk6 (fun x hx hl => by simp at hx; omega)
    cases ho : oneM c code.length fl k n st with
    | none =>
      rw [ho] at hpost hres
      subst hpost
      have : RES = none := hres
      subst this
      exact ⟨rfl, hk6'⟩
    | some st' =>
      rw [ho] at hpost hres
      obtain ⟨rfl, hck'⟩ := hpost
      refine int64 (by omega) (by omega) ?_
      refine ⟨(k + 1, st'), by simp only; omega, rfl, ⟨rfl, rfl, rfl, trivial⟩, hlt, hck', hk6', hres, ?_⟩
      simp only [oneM] at ho
      cases hnx : nextM c k n (st.1.getD k 0) fl with
      | none => rw [hnx] at ho; cases ho
      | some l =>
        rw [hnx] at ho
        have hbd := nextM_bd hco hg.1 hf.1 hnx
        have hB' : (256 + ((k : Nat) : Int) * 1099511627776) + 1099511627776 = 256 + ((k + 1 : Nat) : Int) * 1099511627776 := by
          rw [Int.natCast_add, Int.add_mul]; omega
        have hle : st.1.getD k 0 ≤ 256 + ((k : Nat) : Int) * 1099511627776 := by
          rcases hmem with h | h
          · exact absurd h hm
          · exact h.2
        refine (goM_hb (B := 256 + ((k + 1 : Nat) : Int) * 1099511627776) ho (hhb2.mono (by omega)) fun t ht => ?_).1
        have := hbd t ht
        omega
  · have hB5 : Bk w5.heap p [.pointer (some ⟨bc, 0, none⟩), .slice ac code.length cc, .int .i64 fl, .slice (some ⟨hb, 0, none⟩) code.length code.length, .int .i64 st.2] 179 := hck.blk
    refine ld (hB5.cl rfl).cell ?_
    rw [List.drop_eq_nil_of_le (by omega)] at hres
    have : RES = some st.2 := hres
    subst this
    exact ⟨rfl, hkp⟩
end Go.Proofs.YtbggaljmollhmaaGreatDoor

/-
  Code: package bare, at rows that are one box.
-/
set_option linter.unusedSimpArgs false
set_option linter.unusedVariables false
namespace Go.Proofs.YtbggaljmollhmaaGreatDoor
open Go.Wx Cd

/-- a box stands at (b, o) -/
structure Bx (w : World) (b o : Nat) : Prop where
  op : Cl w.heap b o (.int .i64 22)
  a : Cl w.heap b (o + 1) (.int .i64 0)
  b : Cl w.heap b (o + 2) (.int .i64 0)
theorem Bx.kp {w w' : World} {b o : Nat} {X : List Nat} (h : Bx w b o) (k : Kp X w w') (hx : b ∉ X) : Bx w' b o := ⟨h.op.kp k hx, h.a.kp k hx, h.b.kp k hx⟩
theorem Bx.cells {w : World} {b o : Nat} (h : Bx w b o) : ∀ j v, [Value.int .i64 22, .int .i64 0, .int .i64 0][j]? = some v → Cl w.heap b (o + j) v := fun j v hj => by
  match j with
  | 0 => simp at hj; subst hj; exact h.op
  | 1 => simp at hj; subst hj; exact h.a
  | 2 => simp at hj; subst hj; exact h.b
  | j + 3 => simp at hj

theorem kids_box (w : World) : CallOk Tryz.prog 188 ∧ Calls Tryz.prog 188 #[.agg #[.int .i64 22, .int .i64 0, .int .i64 0]] w (fun e w' => e = .returned (.int .i64 0) ∧ Kp [] w w') := by
  refine ⟨⟨_, Tryz.func188, rfl, by decide⟩, ?_⟩
  refine calls_of (args := [_]) 111 [.tmp 2] τok Tryz.func188 rfl rfl rfl (Nat.le_of_ble_eq_true rfl) ?_
  refine new fun b1 w1 hb1 hB1 hs1 hk1 => ?_
  have hB1 : Bk w1.heap b1 [.int .i64 22, .int .i64 0, .int .i64 0] 139 := hB1
  (repeat first | refine ldC ‹Sub _ _› (by assumption) ?_ | refine ld (Cl.cell (by first | assumption | exact Bk.cl (by assumption) rfl)) ?_ | refine ldK (by first | assumption | exact Bk.cl (by assumption) rfl | exact ‹Sub _ _› _ _ _ (by assumption)) ?_)
  exact ⟨rfl, hk1⟩

theorem end_box {w : World} {b o : Nat} (cap : Nat) (hx : Bx w b o) : CallOk Tryz.prog 186 ∧ Calls Tryz.prog 186 #[.slice (some ⟨b, o, none⟩) 1 cap, .int .i64 0] w (fun e w' => e = .returned (.int .i64 1) ∧ Kp [] w w') := by
  refine ⟨⟨_, Tryz.func186, rfl, by decide⟩, ?_⟩
  refine calls_of (args := [_, _]) 29 [.tmp 4] τok Tryz.func186 rfl rfl rfl (Nat.le_of_ble_eq_true rfl) ?_
  refine ix 0 rfl (by decide) ?_
  refine ldN [.int .i64 22, .int .i64 0, .int .i64 0] rfl (fun j v hj => by simpa using hx.cells j v hj) ?_
  refine ev_call (kids_box w) ?_
  rintro e w1 ⟨rfl, hk1⟩
  refine int64 (by decide) (by decide) ?_
  refine lp τok (fun _ : Unit => [(1, .int .i64 1), (19, .int .i64 0), (20, .int .i64 0)]) (fun _ w' => Kp [] w w') (fun _ => 0) () rfl ⟨rfl, rfl, rfl, trivial⟩ hk1 ?_
  rintro _ w2 hk2
  exact ⟨rfl, hk2⟩

theorem shape_box {w : World} {b o : Nat} (cap : Nat) (hx : Bx w b o) : CallOk Tryz.prog 181 ∧ Calls Tryz.prog 181 #[.slice (some ⟨b, o, none⟩) 1 cap] w (fun e w' => e = .returned (.int .i64 0) ∧ Kp [] w w') := by
  refine ⟨⟨_, Tryz.func181, rfl, by decide⟩, ?_⟩
  refine calls_of (args := [_]) 11 [.tmp 2] τok Tryz.func181 rfl rfl rfl (Nat.le_of_ble_eq_true rfl) ?_
  refine ev_call (end_box cap hx) ?_
  rintro e w1 ⟨rfl, hk1⟩
  exact ⟨rfl, hk1⟩

theorem below1_box (around : Int) (v : Value) (w : World) : CallOk Tryz.prog 183 ∧ Calls Tryz.prog 183 #[.agg #[.int .i64 22, .int .i64 0, .int .i64 0], .int .i64 around, v] w (fun e w' => e = .returned (.bool true) ∧ Kp [] w w') := by
  refine ⟨⟨_, Tryz.func183, rfl, by decide⟩, ?_⟩
  refine calls_of (args := [_, _, _]) 18 [.tmp 5] τok Tryz.func183 rfl rfl rfl (Nat.le_of_ble_eq_true rfl) ?_
  refine new fun b1 w1 hb1 hB1 hs1 hk1 => ?_
  have hB1 : Bk w1.heap b1 [.int .i64 22, .int .i64 0, .int .i64 0] 139 := hB1
  (repeat first | refine ldC ‹Sub _ _› (by assumption) ?_ | refine ld (Cl.cell (by first | assumption | exact Bk.cl (by assumption) rfl)) ?_ | refine ldK (by first | assumption | exact Bk.cl (by assumption) rfl | exact ‹Sub _ _› _ _ _ (by assumption)) ?_)
  exact ⟨rfl, hk1⟩

theorem walk1_box {w : World} {b o cap bt bat bone : Nat} {v : Value} (pt : Value) (hx : Bx w b o) (ht : Cl w.heap bt 0 (.slice (some ⟨b, o, none⟩) 1 cap)) (hat : Bk w.heap bat [.int .i64 0] 3) (hone : Cl w.heap bone 0 (.func (.func 183) #[] #[v])) (hne : bone ≠ bat) :
    CallOk Tryz.prog 187 ∧ Calls Tryz.prog 187 #[.int .i64 0, .pointer (some ⟨bt, 0, none⟩), .pointer (some ⟨bat, 0, none⟩), .pointer (some ⟨bone, 0, none⟩), pt] w (fun e w' => e = .returned (.bool true) ∧ Kp [bat] w w') := by
  refine ⟨⟨_, Tryz.func187, rfl, by decide⟩, ?_⟩
  refine calls_of (args := [_, _, _, _, _]) 34 [.tmp 6] τok Tryz.func187 rfl rfl rfl (Nat.le_of_ble_eq_true rfl) ?_
  (repeat first | refine ldC ‹Sub _ _› (by assumption) ?_ | refine ld (Cl.cell (by first | assumption | exact Bk.cl (by assumption) rfl)) ?_ | refine ldK (by first | assumption | exact Bk.cl (by assumption) rfl | exact ‹Sub _ _› _ _ _ (by assumption)) ?_)
  refine ix 0 rfl (by decide) ?_
  refine ldN [.int .i64 22, .int .i64 0, .int .i64 0] rfl (fun j v hj => by simpa using hx.cells j v hj) ?_
  refine new fun b1 w1 hb1 hB1 hs1 hk1 => ?_
  refine stN hB1 rfl (by simp [Value.oneCell']) fun w2 hB2 hs2 hk2 => ?_
  have hk12 : Kp [] w w2 := hk1.newSt hb1 hk2
  have hat2 := hat.kp hk12 (by simp)
  have hone2 := hone.kp hk12 (by simp)
  refine ld (hat2.cl rfl).cell ?_
  refine int64 (by decide) (by decide) ?_
  refine st hat2 (by simp) rfl fun w3 hat3 hs3 hk3 => ?_
  have hk13 : Kp [bat] w w3 := (hk12.weak (by simp)).trans hk3 (fun x hx _ => hx)
  have hatl := hat.lt
  have hone3 := hone2.kp hk3 (by simpa using hne)
  have hB3 := hB2.kp hk3 (by simp; omega)
  refine ld hone3.cell ?_
  refine ldN [.int .i64 22, .int .i64 0, .int .i64 0] rfl (fun j v hj => by rw [Nat.zero_add]; exact hB3.cl hj) ?_
  refine ev_call (below1_box 0 v w3) ?_
  rintro e w4 ⟨rfl, hk4⟩
  have hB4 := hB3.kp hk4 (by simp)
  refine ldN [.int .i64 22, .int .i64 0, .int .i64 0] rfl (fun j v hj => by rw [Nat.zero_add]; exact hB4.cl hj) ?_
  refine ev_call (kids_box w4) ?_
  rintro e w5 ⟨rfl, hk5⟩
  have hk15 : Kp [bat] w w5 := (hk13.tr hk4).tr hk5
  refine lp τok (fun _ : Unit => [(21, .int .i64 0), (22, .int .i64 0)]) (fun _ w' => Kp [bat] w w') (fun _ => 0) () rfl ⟨rfl, rfl, trivial⟩ hk15 ?_
  rintro _ w6 hk6
  exact ⟨rfl, hk6⟩

theorem walk_box {w : World} {b o : Nat} (cap : Nat) (v : Value) (hx : Bx w b o) : CallOk Tryz.prog 182 ∧ Calls Tryz.prog 182 #[.slice (some ⟨b, o, none⟩) 1 cap, .func (.func 183) #[] #[v]] w (fun e w' => e = .returned (.bool true) ∧ Kp [] w w') := by
  refine ⟨⟨_, Tryz.func182, rfl, by decide⟩, ?_⟩
  refine calls_of (args := [_, _]) 10 [.tmp 4] τok Tryz.func182 rfl rfl rfl (Nat.le_of_ble_eq_true rfl) ?_
  refine new fun bt w1 hbt hT hs1 hk1 => ?_
  refine new fun bf w2 hbf hF hs2 hk2 => ?_
  refine new fun ba w3 hba hA hs3 hk3 => ?_
  refine st hA (by simp [zc]) rfl fun w4 hA4 hs4 hk4 => ?_
  refine new fun bm w5 hbm hM hs5 hk5 => ?_
  refine st hM (by simp [zc]) rfl fun w6 hM6 hs6 hk6 => ?_
  have hA5 : Bk w5.heap ba [.int .i64 0] 3 := hA4.kp hk5 (by simp)
  have hA6 := hA5.kp hk6 (by simp; omega)
  have k12 := hk1.tr hk2
  have k14 : Kp [] w2 w4 := hk3.newSt hba hk4
  have k46 : Kp [] w4 w6 := hk5.newSt hbm hk6
  have k16 : Kp [] w1 w6 := (hk2.tr k14).tr k46
  have k26 : Kp [] w2 w6 := k14.tr k46
  have k06 := hk1.tr k16
  refine ld (hM6.cl rfl).cell ?_
  refine ev_call (walk1_box _ (hx.kp k06 (by simp)) ((hT.kp k16 (by simp)).cl rfl) hA6 ((hF.kp k26 (by simp)).cl rfl) (by omega)) ?_
  rintro e w7 ⟨rfl, hk7⟩
  refine ⟨rfl, k06.trans hk7 (fun x hx hl => ?_)⟩
  have := k12.size
  simp at hx
  omega

theorem below_box {w : World} {b o : Nat} (cap : Nat) (hx : Bx w b o) : CallOk Tryz.prog 162 ∧ Calls Tryz.prog 162 #[.slice (some ⟨b, o, none⟩) 1 cap, .int .i64 0] w (fun e w' => e = .returned (.bool true) ∧ Kp [] w w') := by
  refine ⟨⟨_, Tryz.func162, rfl, by decide⟩, ?_⟩
  refine calls_of (args := [_, _]) 13 [.tmp 4] τok Tryz.func162 rfl rfl rfl (Nat.le_of_ble_eq_true rfl) ?_
  refine new fun b1 w1 hb1 hB1 hs1 hk1 => ?_
  refine ev_call (shape_box cap (hx.kp hk1 (by simp))) ?_
  rintro e w2 ⟨rfl, hk2⟩
  have hk12 := hk1.tr hk2
  refine ev_call (walk_box cap _ (hx.kp hk12 (by simp))) ?_
  rintro e w3 ⟨rfl, hk3⟩
  exact ⟨rfl, hk12.tr hk3⟩

theorem there_box {w : World} {b o : Nat} (cap : Nat) (cs : List Value) (known : Int) (hx : Bx w b o) : CallOk Tryz.prog 130 ∧ Calls Tryz.prog 130 #[.agg cs.toArray, .int .i64 known, .slice (some ⟨b, o, none⟩) 1 cap] w (fun e w' => e = .returned (.bool true) ∧ Kp [] w w') := by
  refine ⟨⟨_, Tryz.func130, rfl, by decide⟩, ?_⟩
  refine calls_of (args := [_, _, _]) 70 [.tmp 6] τok Tryz.func130 rfl rfl rfl (Nat.le_of_ble_eq_true rfl) ?_
  refine new fun b1 w1 hb1 hB1 hs1 hk1 => ?_
  refine ev_call (below_box cap (hx.kp hk1 (by simp))) ?_
  rintro e w2 ⟨rfl, hk2⟩
  have hk12 := hk1.tr hk2
  refine lp τok (σ := Nat) (fun k => [(1, .int .i64 known), (3, .pointer (some ⟨b1, 0, none⟩)), (13, .slice (some ⟨b, o, none⟩) 1 cap), (14, .int .i64 1), (15, .int .i64 k)]) (fun k w' => Kp [] w w') (fun k => 1 - k) 0 rfl ⟨rfl, rfl, rfl, rfl, rfl, trivial⟩ hk12 ?_
  rintro k w3 hk3
  refine br_dec (fun h => ?_) (fun h => ?_)
  · have h0 : k = 0 := by omega
    subst h0
    have hx3 := hx.kp hk3 (by simp)
    refine ix 0 rfl (by decide) ?_
    refine ldN [.int .i64 22, .int .i64 0, .int .i64 0] rfl (fun j v hj => by simpa using hx3.cells j v hj) ?_
    refine new fun b4 w4 hb4 hB4 hs4 hk4 => ?_
    refine stN hB4 rfl (by simp [Value.oneCell']) fun w5 hB5 hs5 hk5 => ?_
    have hk35 : Kp [] w3 w5 := hk4.newSt hb4 hk5
    (repeat first | refine ldC ‹Sub _ _› (by assumption) ?_ | refine ld (Cl.cell (by first | assumption | exact Bk.cl (by assumption) rfl)) ?_ | refine ldK (by first | assumption | exact Bk.cl (by assumption) rfl | exact ‹Sub _ _› _ _ _ (by assumption)) ?_)
    refine drawR τok (by kernel_rfl) ?_
    intro m
    have hB6 : Bk ({ w5 with drawn := m } : World).heap b4 [.int .i64 22, .int .i64 0, .int .i64 0] 139 := hB5
    refine drawR τok (by kernel_rfl) ?_
    refine ldR (hB6.cl rfl) ?_
    intro m'
    refine int64 (by decide) (by decide) ?_
    exact ⟨1, by decide, rfl, ⟨rfl, rfl, rfl, rfl, rfl, trivial⟩, ((hk3.tr hk35).dr _).dr _⟩
  · exact ⟨rfl, hk3⟩
end Go.Proofs.YtbggaljmollhmaaGreatDoor

/-
  Rows of nodes and their trees, in plain Lean; how nodes read in memory.
-/
set_option linter.unusedVariables false
namespace Cd
open Go Go.Wx

structure Nd where
  op : Int
  a : Int
  b : Int
def rNd : Rd Nd where
  sz := 3
  den C cs x := cs = [.int .i64 x.op, .int .i64 x.a, .int .i64 x.b] ∧ I64 x.op ∧ I64 x.a ∧ I64 x.b
  len := by rintro C cs x ⟨rfl, _⟩; rfl
  mono := by rintro C C' cs x hc h; exact h
  one := by rintro C cs x ⟨rfl, _⟩ u hu; simp at hu; rcases hu with rfl | rfl | rfl <;> rfl
theorem sl_nd {C : Mem} {a : Option Addr} {l : List Nd} (h : Sl rNd C a l) {i : Nat} {x : Nd} (hi : l[i]? = some x) : ∃ b o, a = some ⟨b, o, none⟩ ∧ I64 x.op ∧ I64 x.a ∧ I64 x.b ∧
    ∀ j v, [Value.int .i64 x.op, .int .i64 x.a, .int .i64 x.b][j]? = some v → C b (o + i * 3 + j) v := by
  obtain ⟨b, o, ha, hc⟩ := h.at (get_lt hi)
  obtain ⟨cs, ⟨rfl, h2, h3, h4⟩, h5⟩ := hc i x hi
  exact ⟨b, o, ha, h2, h3, h4, h5⟩

/-- a slice whose length is no more than its capacity -/
def rSk {α : Type} (R : Rd α) : Rd (List α) where
  sz := 1
  den C cs l := ∃ a cap, cs = [.slice a l.length cap] ∧ l.length ≤ cap ∧ Sl R C a l
  len := by rintro C cs x ⟨a, cap, rfl, _⟩; rfl
  mono := by rintro C C' cs x hc ⟨a, cap, rfl, h', h⟩; exact ⟨a, cap, rfl, h', h.mono hc⟩
  one := by rintro C cs x ⟨a, cap, rfl, _⟩ u hu; simp at hu; subst hu; rfl
theorem _root_.Go.Wx.Sl.sk {α : Type} {R : Rd α} {C : Mem} {a : Option Addr} {l : List (List α)} (h : Sl (rSk R) C a l) {i : Nat} {x : List α} (hi : l[i]? = some x) :
    ∃ b o, a = some ⟨b, o, none⟩ ∧ ∃ a' cap, C b (o + i * 1) (.slice a' x.length cap) ∧ x.length ≤ cap ∧ Sl R C a' x := by
  obtain ⟨b, o, ha, hc⟩ := h.at (get_lt hi)
  obtain ⟨cs, ⟨a', cap, rfl, hl, hs⟩, h2⟩ := hc i x hi
  exact ⟨b, o, ha, a', cap, h2 0 _ rfl, hl, hs⟩
theorem _root_.Go.Wx.Sl.of_sk {α : Type} {R : Rd α} {C : Mem} {a : Option Addr} {l : List (List α)} (h : Sl (rSk R) C a l) : Sl (rSl R) C a l := by
  refine ⟨h.1, ?_⟩
  rcases h.2 with h0 | ⟨b, o, h1, h2⟩
  · exact .inl h0
  · refine .inr ⟨b, o, h1, fun i x hx => ?_⟩
    obtain ⟨cs, ⟨a', cap, rfl, hl, hs⟩, h3⟩ := h2 i x hx
    exact ⟨_, ⟨a', cap, rfl, hs⟩, h3⟩
/-- what a slice of a slice reads as: from l on -/
theorem _root_.Go.Wx.Sl.from {α : Type} {R : Rd α} {C : Mem} {a : Option Addr} {l : List α} (h : Sl R C a l) {cap : Nat} (hc : l.length ≤ cap) (k : Nat) (hk : k ≤ l.length) :
    ∃ a', sliced a k l.length cap R.sz = .slice a' (l.drop k).length (cap - k) ∧ Sl R C a' (l.drop k) := by
  rcases h.2 with h0 | ⟨b, o, rfl, h2⟩
  · have : l = [] := List.length_eq_zero_iff.1 h0
    subst this
    refine ⟨_, by simp only [sliced, List.drop_nil, List.length_nil, Nat.zero_sub]; rfl, ?_⟩
    rw [List.drop_nil]
    exact Sl.nil _ _ _
  · by_cases he : cap = k
    · have e0 : l.drop k = [] := List.drop_eq_nil_of_le (by omega)
      refine ⟨_, by simp only [sliced, List.length_drop]; rfl, ?_⟩
      rw [e0]
      exact Sl.nil _ _ _
    · refine ⟨some ⟨b, o + k * R.sz, none⟩, ?_, by have := h.1; rw [List.length_drop]; omega, .inr ⟨b, o + k * R.sz, rfl, fun i x hi => ?_⟩⟩
      · rw [List.length_drop]
        exact sliced_lo (by omega)
      · rw [List.getElem?_drop] at hi
        have := h2 _ _ hi
        rwa [Nat.add_mul, ← Nat.add_assoc] at this

theorem runLdN {C : World → Prop} {b o n : Nat} {k : Value → Prop} (cs : List Value) (hn : cs.length = n) (h : ∀ w, C w → ∀ j v, cs[j]? = some v → Cl w.heap b (o + j) v) (hk : k (.agg cs.toArray)) : EvLdNQ C ⟨b, o, none⟩ n k := by
  unfold EvLdNQ
  refine ⟨cs, hn, fun w' hw j v hj => ?_, hk⟩
  have := (h w' hw j v hj).cell
  unfold Addr.add
  split
  · rename_i h0
    subst h0
    simpa using this
  · exact this

inductive Tr where
  | mk (n : Nd) (ks : List Tr)
def Tr.n : Tr → Nd
  | .mk n _ => n
def Tr.ks : Tr → List Tr
  | .mk _ ks => ks

mutual
def row : Tr → List Nd
  | .mk n ks => n :: rows ks
def rows : List Tr → List Nd
  | [] => []
  | x :: r => row x ++ rows r
end
theorem row_pos (x : Tr) : 0 < (row x).length := by
  cases x
  simp [row]
theorem rows_app : ∀ (l m : List Tr), rows (l ++ m) = rows l ++ rows m
  | [], m => rfl
  | x :: r, m => by simp [rows, rows_app r m]

/-! ### reading: 'σ' is what is known around a node; 'cnt' tells how many kids it has, 'nx' what is known around its k-th kid -/
section
variable {σ : Type} (cnt : σ → Nd → Option Nat) (nx : σ → Nd → Nat → σ)

def kidsL (p : σ → List Nd → Option (Tr × List Nd)) (g : Nat → σ) : Nat → Nat → List Nd → Option (List Tr × List Nd)
  | _, 0, r => some ([], r)
  | k, c + 1, r => match p (g k) r with
    | none => none
    | some (x, r') => match kidsL p g (k + 1) c r' with
      | none => none
      | some (xs, r'') => some (x :: xs, r'')

def parse : Nat → σ → List Nd → Option (Tr × List Nd)
  | 0, _, _ => none
  | _ + 1, _, [] => none
  | f + 1, s, n :: r => match cnt s n with
    | none => none
    | some c => match kidsL (parse f) (nx s n) 0 c r with
      | none => none
      | some (ks, r') => some (.mk n ks, r')

mutual
def okT : Tr → σ → Prop
  | .mk n ks, s => cnt s n = some ks.length ∧ okL ks n s 0
def okL : List Tr → Nd → σ → Nat → Prop
  | [], _, _, _ => True
  | x :: r, n, s, k => okT x (nx s n k) ∧ okL r n s (k + 1)
end

variable {cnt nx}
theorem kidsL_some {p : σ → List Nd → Option (Tr × List Nd)} {n : Nd} {s : σ} (hp : ∀ s t x r, p s t = some (x, r) → t = row x ++ r ∧ okT cnt nx x s) : ∀ (c k : Nat) (t : List Nd) (ks : List Tr) (r : List Nd), kidsL p (nx s n) k c t = some (ks, r) → t = rows ks ++ r ∧ ks.length = c ∧ okL cnt nx ks n s k
  | 0, k, t, ks, r, h => by
    simp only [kidsL, Option.some.injEq, Prod.mk.injEq] at h
    obtain ⟨rfl, rfl⟩ := h
    exact ⟨rfl, rfl, trivial⟩
  | c + 1, k, t, ks, r, h => by
    simp only [kidsL] at h
    split at h
    · cases h
    rename_i x r' hx
    split at h
    · cases h
    rename_i xs r'' hxs
    simp only [Option.some.injEq, Prod.mk.injEq] at h
    obtain ⟨rfl, rfl⟩ := h
    obtain ⟨h1, h2⟩ := hp _ _ _ _ hx
    obtain ⟨h3, h4, h5⟩ := kidsL_some hp c (k + 1) r' xs r'' hxs
    exact ⟨by rw [h1, h3]; simp [rows], by simp [h4], h2, h5⟩
theorem parse_some : ∀ (f : Nat) (s : σ) (t : List Nd) (x : Tr) (r : List Nd), parse cnt nx f s t = some (x, r) → t = row x ++ r ∧ okT cnt nx x s
  | 0, s, t, x, r, h => by simp [parse] at h
  | f + 1, s, [], x, r, h => by simp [parse] at h
  | f + 1, s, n :: t, x, r, h => by
    simp only [parse] at h
    split at h
    · cases h
    rename_i c hc
    split at h
    · cases h
    rename_i ks r' hk
    simp only [Option.some.injEq, Prod.mk.injEq] at h
    obtain ⟨rfl, rfl⟩ := h
    obtain ⟨h1, h2, h3⟩ := kidsL_some (parse_some f) c 0 t ks r' hk
    exact ⟨by rw [h1]; simp [row], by rw [hc, h2], h3⟩

mutual
theorem parse_of : ∀ (x : Tr) (f : Nat) (s : σ) (r : List Nd), (row x).length ≤ f → okT cnt nx x s → parse cnt nx f s (row x ++ r) = some (x, r)
  | .mk n ks, 0, s, r, hf, _ => by simp [row] at hf
  | .mk n ks, f + 1, s, r, hf, h => by
    obtain ⟨h1, h2⟩ := h
    have := kidsL_of ks f n s 0 r (by simpa [row] using hf) h2
    simp only [row, List.cons_append, parse, h1, this]
theorem kidsL_of : ∀ (ks : List Tr) (f : Nat) (n : Nd) (s : σ) (k : Nat) (r : List Nd), (rows ks).length ≤ f → okL cnt nx ks n s k → kidsL (parse cnt nx f) (nx s n) k ks.length (rows ks ++ r) = some (ks, r)
  | [], f, n, s, k, r, _, _ => rfl
  | x :: l, f, n, s, k, r, hf, h => by
    obtain ⟨h1, h2⟩ := h
    simp only [rows, List.length_append] at hf
    have e1 := parse_of x f (nx s n k) (rows l ++ r) (by omega) h1
    have e2 := kidsL_of l f n s (k + 1) r (by omega) h2
    simp only [rows, List.append_assoc, List.length_cons, kidsL, e1, e2]
end

/-- how much of a row was read -/
theorem parse_len {f : Nat} {s : σ} {t : List Nd} {x : Tr} {r : List Nd} (h : parse cnt nx f s t = some (x, r)) : t.length = (row x).length + r.length := by
  rw [(parse_some f s t x r h).1, List.length_append]

theorem parse_fuel {f g : Nat} {s : σ} {t : List Nd} (hf : t.length ≤ f) (hg : t.length ≤ g) : parse cnt nx f s t = parse cnt nx g s t := by
  cases h : parse cnt nx f s t with
  | some p =>
    obtain ⟨x, r⟩ := p
    obtain ⟨h1, h2⟩ := parse_some _ _ _ _ _ h
    subst h1
    exact (parse_of x g s r (by simp at hg; omega) h2).symm
  | none =>
    cases h' : parse cnt nx g s t with
    | none => rfl
    | some p =>
      obtain ⟨x, r⟩ := p
      obtain ⟨h1, h2⟩ := parse_some _ _ _ _ _ h'
      subst h1
      rw [parse_of x f s r (by simp at hf; omega) h2] at h
      cases h

theorem kidsL_step (p : σ → List Nd → Option (Tr × List Nd)) (g : Nat → σ) (k c : Nat) (r : List Nd) : (kidsL p g k (c + 1) r).map Prod.snd = match p (g k) r with
    | none => none
    | some (_, r') => (kidsL p g (k + 1) c r').map Prod.snd := by
  simp only [kidsL]
  cases h : p (g k) r with
  | none => rfl
  | some q =>
    obtain ⟨x, r'⟩ := q
    simp only
    cases h' : kidsL p g (k + 1) c r' with
    | none => rfl
    | some q' => rfl
theorem parse_step (f : Nat) (s : σ) (n : Nd) (t : List Nd) : (parse cnt nx (f + 1) s (n :: t)).map Prod.snd = match cnt s n with
    | none => none
    | some c => (kidsL (parse cnt nx f) (nx s n) 0 c t).map Prod.snd := by
  simp only [parse]
  cases cnt s n with
  | none => rfl
  | some c =>
    simp only
    cases kidsL (parse cnt nx f) (nx s n) 0 c t with
    | none => rfl
    | some q => rfl
theorem parse_at {f : Nat} {s : σ} {t : List Nd} {a : Nat} (ha : a ≤ t.length) {x : Tr} {r : List Nd} (h : parse cnt nx f s (t.drop a) = some (x, r)) : r = t.drop (t.length - r.length) ∧ a < t.length - r.length ∧ r.length ≤ t.length ∧ (row x).length = t.length - r.length - a := by
  obtain ⟨h1, _⟩ := parse_some _ _ _ _ _ h
  have hl := parse_len h
  have hp := row_pos x
  rw [List.length_drop] at hl
  refine ⟨?_, by omega, by omega, by omega⟩
  have e : t.length - r.length = a + (row x).length := by omega
  rw [e, ← List.drop_drop, h1, List.drop_left]

/-- the tree of a whole row -/
def treeOf (s : σ) (t : List Nd) : Option Tr := match parse cnt nx t.length s t with
  | some (x, []) => some x
  | _ => none
theorem treeOf_some {s : σ} {t : List Nd} {x : Tr} (h : treeOf (cnt := cnt) (nx := nx) s t = some x) : t = row x ∧ okT cnt nx x s := by
  unfold treeOf at h
  split at h
  · rename_i y hy
    obtain rfl := Option.some.inj h
    obtain ⟨h1, h2⟩ := parse_some _ _ _ _ _ hy
    exact ⟨by rw [h1]; simp, h2⟩
  · cases h
theorem treeOf_of {s : σ} {x : Tr} (h : okT cnt nx x s) : treeOf (cnt := cnt) (nx := nx) s (row x) = some x := by
  unfold treeOf
  have := parse_of x (row x).length s [] (Nat.le_refl _) h
  rw [List.append_nil] at this
  rw [this]
end

/-! ### a row is longer than its tree is deep, and has at least as many nodes as kids -/
mutual
def tsize : Tr → Nat
  | .mk _ ks => 1 + tsizes ks
def tsizes : List Tr → Nat
  | [] => 0
  | x :: r => tsize x + tsizes r
end
mutual
theorem row_len : ∀ x : Tr, (row x).length = tsize x
  | .mk n ks => by rw [row, tsize, List.length_cons, rows_len ks]; omega
theorem rows_len : ∀ l : List Tr, (rows l).length = tsizes l
  | [] => rfl
  | x :: r => by rw [rows, tsizes, List.length_append, row_len x, rows_len r]
end
theorem tsize_pos (x : Tr) : 0 < tsize x := by
  cases x
  simp only [tsize]
  omega
theorem tsizes_len : ∀ l : List Tr, l.length ≤ tsizes l
  | [] => Nat.le_refl _
  | x :: r => by
    have := tsizes_len r
    have := tsize_pos x
    simp only [tsizes, List.length_cons]
    omega
end Cd

/-
  Code: package bare: shapes, what is registered, Right, where all rows are boxes or none.
-/
set_option linter.unusedSimpArgs false
set_option linter.unusedVariables false
namespace Cd
open Go Go.Wx

def Nd.box : Nd := ⟨22, 0, 0⟩

def shpOk (s : Shp) : Bool := decide (0 ≤ s.params) && decide (s.params ≤ 16) && decide (s.kept.length ≤ 16) && !s.kept.any fun k => decide (16 < k.length)
def entOk (b : List Nd) (s : Shp) : Bool := shpOk s && (decide (b.length = 0) || (decide (s.params = 0) && decide (s.kept.length = 0)))
def entsOk : List (List Nd) → List Shp → Bool
  | b :: bs, s :: ss => entOk b s && entsOk bs ss
  | _, _ => true
def natOk (bodies : List (List Nd)) (shapes : List Shp) (nat : Int) : Bool :=
  decide (nat = -1) || (decide (0 ≤ nat) && decide (nat < bodies.length) && decide (((bodies[nat.toNat]?).getD []).length = 0) && match shapes[nat.toNat]? with
    | some s => decide (s.params = 0) && decide (s.kept = [[], [true]])
    | none => false)
def rightM (bodies : List (List Nd)) (shapes : List Shp) (nat : Int) : Bool :=
  decide (bodies.length = shapes.length) && (entsOk bodies shapes && natOk bodies shapes nat)
end Cd

namespace Go.Proofs.YtbggaljmollhmaaGreatDoor
open Go.Wx Cd

theorem shaped1_ct (a : Option Addr) (k cap : Nat) (w : World) : CallOk Tryz.prog 161 ∧ Calls Tryz.prog 161 #[.slice a k cap] w (fun e w' => e = .returned (.bool (decide (16 < k))) ∧ Kp [] w w') := by
  refine ⟨⟨_, Tryz.func161, rfl, by decide⟩, ?_⟩
  refine calls_of (args := [_]) 6 [.tmp 2] τok Tryz.func161 rfl rfl rfl (Nat.le_of_ble_eq_true rfl) ?_
  refine ⟨?_, Kp.refl _ _⟩
  simp [one]
  omega

theorem indexKept_ct {C : Mem} {w : World} (hS : Sub C w) (l : List (List Bool)) (a : Option Addr) (cap : Nat) (hl : Sl (rSl rBool) C a l) :
    CallOk Tryz.prog 180 ∧ Calls Tryz.prog 180 #[.slice a l.length cap, .func (.func 161) #[] #[]] w (fun e w' => ∃ i : Int, e = .returned (.int .i64 i) ∧ Kp [] w w' ∧ (l.any (fun k => decide (16 < k.length)) = decide (0 ≤ i))) := by
  refine ⟨⟨_, Tryz.func180, rfl, by decide⟩, ?_⟩
  have hlen := hl.1
  refine calls_of (args := [_, _]) 19 [.tmp 4] τok Tryz.func180 rfl rfl rfl (Nat.le_of_ble_eq_true rfl) ?_
  refine lp τok (σ := Nat) (fun k => [(0, .slice a l.length cap), (1, .func (.func 161) #[] #[]), (7, .int .i64 l.length), (8, .int .i64 k)]) (fun k w' => k ≤ l.length ∧ Kp [] w w' ∧ l.any (fun k => decide (16 < k.length)) = (l.drop k).any (fun k => decide (16 < k.length))) (fun k => l.length - k) 0 rfl
    ⟨rfl, rfl, rfl, rfl, trivial⟩ ⟨Nat.zero_le _, Kp.refl _ _, rfl⟩ ?_
  rintro k w1 ⟨hk, hkp, hr⟩
  refine br_dec (fun h => ?_) (fun h => ?_)
  · have hlt : k < l.length := by omega
    obtain ⟨x, hx, hd⟩ := drop_get hlt
    rw [hd, List.any_cons] at hr
    obtain ⟨b, o, rfl, a', c', hcell, hsl⟩ := hl.sl hx
    have hS1 := hS.tr hkp
    refine ix k rfl hlt ?_
    (repeat first | refine ldC ‹Sub _ _› (by assumption) ?_ | refine ld (Cl.cell (by first | assumption | exact Bk.cl (by assumption) rfl)) ?_ | refine ldK (by first | assumption | exact Bk.cl (by assumption) rfl | exact ‹Sub _ _› _ _ _ (by assumption)) ?_)
    refine ev_call (shaped1_ct a' x.length c' w1) ?_
    rintro e w2 ⟨rfl, hk2⟩
    have hkp2 := hkp.tr hk2
    refine br_dec (fun hc => ?_) (fun hc => ?_)
    · refine ⟨(k : Int), rfl, hkp2, ?_⟩
      rw [hr, decide_eq_true hc, decide_eq_true (by omega)]
      rfl
    · refine int64 (by omega) (by omega) ?_
      refine ⟨k + 1, by omega, rfl, ⟨rfl, rfl, rfl, rfl, trivial⟩, hlt, hkp2, ?_⟩
      rw [hr, decide_eq_false hc, Bool.false_or]
  · refine ⟨-1, rfl, hkp, ?_⟩
    rw [hr, List.drop_eq_nil_of_le (by omega)]
    rfl

theorem containsKept_ct {C : Mem} {w : World} (hS : Sub C w) (l : List (List Bool)) (a : Option Addr) (cap : Nat) (hl : Sl (rSl rBool) C a l) :
    CallOk Tryz.prog 160 ∧ Calls Tryz.prog 160 #[.slice a l.length cap, .func (.func 161) #[] #[]] w (fun e w' => e = .returned (.bool (l.any fun k => decide (16 < k.length))) ∧ Kp [] w w') := by
  refine ⟨⟨_, Tryz.func160, rfl, by decide⟩, ?_⟩
  refine calls_of (args := [_, _]) 9 [.tmp 4] τok Tryz.func160 rfl rfl rfl (Nat.le_of_ble_eq_true rfl) ?_
  refine ev_call (indexKept_ct hS l a cap hl) ?_
  rintro e w1 ⟨i, rfl, hk1, hi⟩
  refine ⟨?_, hk1⟩
  rw [hi]
  rfl

theorem shapedS_ct {C : Mem} {w : World} (hS : Sub C w) (s : Shp) (a : Option Addr) (cap : Nat) (hl : Sl (rSl rBool) C a s.kept) :
    CallOk Tryz.prog 129 ∧ Calls Tryz.prog 129 #[.agg #[.int .i64 s.params, .slice a s.kept.length cap]] w (fun e w' => e = .returned (.bool (shpOk s)) ∧ Kp [] w w') := by
  refine ⟨⟨_, Tryz.func129, rfl, by decide⟩, ?_⟩
  refine calls_of (args := [_]) 21 [.tmp 2] τok Tryz.func129 rfl rfl rfl (Nat.le_of_ble_eq_true rfl) ?_
  refine new fun b1 w1 hb1 hB1 hs1 hk1 => ?_
  have hB1 : Bk w1.heap b1 [.int .i64 s.params, .slice a s.kept.length cap] 109 := hB1
  have hS1 := hS.tr hk1
  (repeat first | refine ldC ‹Sub _ _› (by assumption) ?_ | refine ld (Cl.cell (by first | assumption | exact Bk.cl (by assumption) rfl)) ?_ | refine ldK (by first | assumption | exact Bk.cl (by assumption) rfl | exact ‹Sub _ _› _ _ _ (by assumption)) ?_)
  refine br_dec (fun h1 => ?_) (fun h1 => ?_)
  · exact ⟨by simp [one, shpOk, show ¬ 0 ≤ s.params by omega], hk1⟩
  (repeat first | refine ldC ‹Sub _ _› (by assumption) ?_ | refine ld (Cl.cell (by first | assumption | exact Bk.cl (by assumption) rfl)) ?_ | refine ldK (by first | assumption | exact Bk.cl (by assumption) rfl | exact ‹Sub _ _› _ _ _ (by assumption)) ?_)
  refine br_dec (fun h2 => ?_) (fun h2 => ?_)
  · exact ⟨by simp [one, shpOk, show ¬ s.params ≤ 16 by omega], hk1⟩
  (repeat first | refine ldC ‹Sub _ _› (by assumption) ?_ | refine ld (Cl.cell (by first | assumption | exact Bk.cl (by assumption) rfl)) ?_ | refine ldK (by first | assumption | exact Bk.cl (by assumption) rfl | exact ‹Sub _ _› _ _ _ (by assumption)) ?_)
  refine br_dec (fun h3 => ?_) (fun h3 => ?_)
  · exact ⟨by simp [one, shpOk, show ¬ s.kept.length ≤ 16 by omega], hk1⟩
  (repeat first | refine ldC ‹Sub _ _› (by assumption) ?_ | refine ld (Cl.cell (by first | assumption | exact Bk.cl (by assumption) rfl)) ?_ | refine ldK (by first | assumption | exact Bk.cl (by assumption) rfl | exact ‹Sub _ _› _ _ _ (by assumption)) ?_)
  refine ev_call (containsKept_ct hS1 s.kept a cap hl) ?_
  rintro e w2 ⟨rfl, hk2⟩
  refine ⟨?_, hk1.tr hk2⟩
  unfold shpOk
  rw [decide_eq_true (show 0 ≤ s.params by omega), decide_eq_true (show s.params ≤ 16 by omega), decide_eq_true (show s.kept.length ≤ 16 by omega)]
  rfl

theorem equalB_ct {C D : Mem} {w : World} (hS : Sub C w) (hD : Sub D w) (l m : List Bool) (a a' : Option Addr) (c c' : Nat) (hl : Sl rBool C a l) (hm : Sl rBool D a' m) :
    CallOk Tryz.prog 163 ∧ Calls Tryz.prog 163 #[.slice a l.length c, .slice a' m.length c'] w (fun e w' => e = .returned (.bool (decide (l = m))) ∧ Kp [] w w') := by
  refine ⟨⟨_, Tryz.func163, rfl, by decide⟩, ?_⟩
  have hlen := hl.1
  refine calls_of (args := [_, _]) 26 [.tmp 4] τok Tryz.func163 rfl rfl rfl (Nat.le_of_ble_eq_true rfl) ?_
  refine br_dec (fun h1 => ?_) (fun h1 => ?_)
  · have : ¬ l = m := fun e => h1 (by rw [e])
    exact ⟨by rw [decide_eq_false this]; rfl, Kp.refl _ _⟩
  have h1 : l.length = m.length := by
    have : (l.length : Int) = m.length := by simpa using h1
    omega
  refine lp τok (σ := Nat) (fun k => [(0, .slice a l.length c), (1, .slice a' m.length c'), (12, .int .i64 l.length), (13, .int .i64 k)]) (fun k w' => k ≤ l.length ∧ Kp [] w w' ∧ decide (l = m) = decide (l.drop k = m.drop k)) (fun k => l.length - k) 0 rfl
    ⟨rfl, rfl, rfl, rfl, trivial⟩ ⟨Nat.zero_le _, Kp.refl _ _, rfl⟩ ?_
  rintro k w1 ⟨hk, hkp, hr⟩
  refine br_dec (fun h => ?_) (fun h => ?_)
  · have hlt : k < l.length := by omega
    obtain ⟨x, hx, hd⟩ := drop_get hlt
    obtain ⟨y, hy, hd'⟩ := drop_get (l := m) (k := k) (by omega)
    rw [hd, hd'] at hr
    obtain ⟨b, o, rfl, hcell⟩ := hl.bool hx
    obtain ⟨b', o', rfl, hcell'⟩ := hm.bool hy
    have hc1 := (hS.tr hkp) _ _ _ hcell
    have hc2 := (hD.tr hkp) _ _ _ hcell'
    refine drawR τok (by kernel_rfl) ?_
    refine ix k rfl hlt ?_
    refine ldR hc1 ?_
    refine ix k rfl (by omega) ?_
    refine ldR hc2 ?_
    intro m'
    refine br (fun hc => ?_) (fun hc => ?_)
    · have : x ≠ y := by simpa using hc
      refine ⟨?_, hkp.dr _⟩
      rw [hr, decide_eq_false (by simp [this])]
      rfl
    · have : x = y := by simpa using hc
      subst this
      refine int64 (by omega) (by omega) ?_
      refine ⟨k + 1, by omega, rfl, ⟨rfl, rfl, rfl, rfl, trivial⟩, hlt, hkp.dr _, ?_⟩
      rw [hr]
      simp
  · refine ⟨?_, hkp⟩
    rw [hr, List.drop_eq_nil_of_le (by omega), List.drop_eq_nil_of_le (by omega)]
    rfl
end Go.Proofs.YtbggaljmollhmaaGreatDoor

/-
  Code: package bare: registered and Right, where all rows are boxes or none.
-/
set_option linter.unusedSimpArgs false
set_option linter.unusedVariables false
namespace Go.Proofs.YtbggaljmollhmaaGreatDoor
open Go.Wx Cd

theorem registered_ct {C : Mem} {w : World} (hS : Sub C w) (bodies : List (List Nd)) (shapes : List Shp) (nat : Int) (ab ash ap : Option Addr) (cb cs cp : Nat) (vm : Value) (hb : Sl (rSl rNd) C ab bodies) (hs : Sl rShp C ash shapes) (hl : bodies.length = shapes.length) :
    CallOk Tryz.prog 131 ∧ Calls Tryz.prog 131 #[.agg #[.slice ab bodies.length cb, .slice ash shapes.length cs, vm, .int .i64 nat, .slice ap 0 cp]] w (fun e w' => e = .returned (.bool (natOk bodies shapes nat)) ∧ Kp [] w w') := by
  obtain ⟨RES, hRES⟩ : ∃ r, natOk bodies shapes nat = r := ⟨_, rfl⟩
  rw [hRES]
  refine ⟨⟨_, Tryz.func131, rfl, by decide⟩, ?_⟩
  refine calls_of (args := [_]) 112 [.tmp 2] τok Tryz.func131 rfl rfl rfl (Nat.le_of_ble_eq_true rfl) ?_
  refine new fun b1 w1 hb1 hB1 hs1 hk1 => ?_
  have hB1 : Bk w1.heap b1 [.slice ab bodies.length cb, .slice ash shapes.length cs, vm, .int .i64 nat, .slice ap 0 cp] 94 := by
    have : (Value.agg #[.slice ab bodies.length cb, .slice ash shapes.length cs, vm, .int .i64 nat, .slice ap 0 cp]).cells.toList = [.slice ab bodies.length cb, .slice ash shapes.length cs, vm, .int .i64 nat, .slice ap 0 cp] := by rfl
    rw [← this]
    exact hB1
  have hS1 := hS.tr hk1
  (repeat first | refine ldC ‹Sub _ _› (by assumption) ?_ | refine ld (Cl.cell (by first | assumption | exact Bk.cl (by assumption) rfl)) ?_ | refine ldK (by first | assumption | exact Bk.cl (by assumption) rfl | exact ‹Sub _ _› _ _ _ (by assumption)) ?_)
  refine br_dec (fun h1 => ?_) (fun h1 => ?_)
  · (repeat first | refine ldC ‹Sub _ _› (by assumption) ?_ | refine ld (Cl.cell (by first | assumption | exact Bk.cl (by assumption) rfl)) ?_ | refine ldK (by first | assumption | exact Bk.cl (by assumption) rfl | exact ‹Sub _ _› _ _ _ (by assumption)) ?_)
    refine ⟨?_, hk1⟩
    rw [← hRES]
    simp [one, natOk, h1]
  (repeat first | refine ldC ‹Sub _ _› (by assumption) ?_ | refine ld (Cl.cell (by first | assumption | exact Bk.cl (by assumption) rfl)) ?_ | refine ldK (by first | assumption | exact Bk.cl (by assumption) rfl | exact ‹Sub _ _› _ _ _ (by assumption)) ?_)
  have no : ∀ w', Kp [] w w' → RES = false → Ending.returned (one [.bool false]) = .returned (.bool RES) ∧ Kp [] w w' := fun w' h e => ⟨by rw [e]; rfl, h⟩
  refine br_dec (fun h2 => ?_) (fun h2 => ?_)
  · exact no _ hk1 (by rw [← hRES]; simp [natOk, h1, show ¬ 0 ≤ nat by omega])
  (repeat first | refine ldC ‹Sub _ _› (by assumption) ?_ | refine ld (Cl.cell (by first | assumption | exact Bk.cl (by assumption) rfl)) ?_ | refine ldK (by first | assumption | exact Bk.cl (by assumption) rfl | exact ‹Sub _ _› _ _ _ (by assumption)) ?_)
  refine br_dec (fun h3 => ?_) (fun h3 => ?_)
  · exact no _ hk1 (by rw [← hRES]; simp [natOk, h1, show ¬ nat < bodies.length by omega])
  obtain ⟨x, hx⟩ : ∃ x, bodies[nat.toNat]? = some x := ⟨bodies[nat.toNat]'(by omega), by simp⟩
  obtain ⟨s, hsx⟩ : ∃ x, shapes[nat.toNat]? = some x := ⟨shapes[nat.toNat]'(by omega), by simp⟩
  have hRES : RES = (decide (x.length = 0) && (decide (s.params = 0) && decide (s.kept = [[], [true]]))) := by
    rw [← hRES]
    unfold natOk
    rw [hx, hsx, decide_eq_false h1, decide_eq_true (show 0 ≤ nat by omega), decide_eq_true (show nat < bodies.length by omega)]
    simp
  obtain ⟨b, o, rfl, a', cap, hcx, _⟩ := hb.sl hx
  obtain ⟨b', o', rfl, ak, ck, hkept, _, hcp, hck⟩ := sl_shp hs hsx
  (repeat first | refine ldC ‹Sub _ _› (by assumption) ?_ | refine ld (Cl.cell (by first | assumption | exact Bk.cl (by assumption) rfl)) ?_ | refine ldK (by first | assumption | exact Bk.cl (by assumption) rfl | exact ‹Sub _ _› _ _ _ (by assumption)) ?_)
  refine ix nat.toNat (by omega) (by omega) ?_
  (repeat first | refine ldC ‹Sub _ _› (by assumption) ?_ | refine ld (Cl.cell (by first | assumption | exact Bk.cl (by assumption) rfl)) ?_ | refine ldK (by first | assumption | exact Bk.cl (by assumption) rfl | exact ‹Sub _ _› _ _ _ (by assumption)) ?_)
  refine br_dec (fun h4 => ?_) (fun h4 => ?_)
  · exact no _ hk1 (by rw [hRES, decide_eq_false (by omega)]; rfl)
  rw [decide_eq_true (show x.length = 0 by omega), Bool.true_and] at hRES
  (repeat first | refine ldC ‹Sub _ _› (by assumption) ?_ | refine ld (Cl.cell (by first | assumption | exact Bk.cl (by assumption) rfl)) ?_ | refine ldK (by first | assumption | exact Bk.cl (by assumption) rfl | exact ‹Sub _ _› _ _ _ (by assumption)) ?_)
  refine ix nat.toNat (by omega) (by omega) ?_
  refine ldN [.int .i64 s.params, .slice ak s.kept.length ck] rfl (fun j v hj => ?_) ?_
  · match j with
    | 0 => simp at hj; subst hj; exact hS1 _ _ _ hcp
    | 1 => simp at hj; subst hj; exact hS1 _ _ _ hck
    | j + 2 => simp at hj
  refine new fun b2 w2 hb2 hB2 hs2 hk2 => ?_
  refine stN hB2 rfl (by simp [Value.oneCell']) fun w3 hB3 hs3 hk3 => ?_
  have hk23 : Kp [] w1 w3 := hk2.newSt hb2 hk3
  have hk13 := hk1.tr hk23
  have hS3 := hS1.tr hk23
  (repeat first | refine ldC ‹Sub _ _› (by assumption) ?_ | refine ld (Cl.cell (by first | assumption | exact Bk.cl (by assumption) rfl)) ?_ | refine ldK (by first | assumption | exact Bk.cl (by assumption) rfl | exact ‹Sub _ _› _ _ _ (by assumption)) ?_)
  refine br_dec (fun h5 => ?_) (fun h5 => ?_)
  · exact no _ hk13 (by rw [hRES, decide_eq_false h5]; rfl)
  rw [decide_eq_true (show s.params = 0 by simpa using h5), Bool.true_and] at hRES
  (repeat first | refine ldC ‹Sub _ _› (by assumption) ?_ | refine ld (Cl.cell (by first | assumption | exact Bk.cl (by assumption) rfl)) ?_ | refine ldK (by first | assumption | exact Bk.cl (by assumption) rfl | exact ‹Sub _ _› _ _ _ (by assumption)) ?_)
  refine br_dec (fun h6 => ?_) (fun h6 => ?_)
  · exact no _ hk13 (by rw [hRES, decide_eq_false (fun e => h6 (by rw [e]; rfl))])
  have h6 : s.kept.length = 2 := by
    have : (s.kept.length : Int) = 2 := by simpa using h6
    omega
  obtain ⟨y0, y1, hy⟩ : ∃ y0 y1, s.kept = [y0, y1] := by
    match h : s.kept, h6 with
    | [y0, y1], _ => exact ⟨y0, y1, rfl⟩
  obtain ⟨b5, o5, rfl, a0, c0, hc0, hsl0⟩ := hkept.sl (i := 0) (x := y0) (by rw [hy]; rfl)
  obtain ⟨b6, o6, e6, a1, c1, hc1, hsl1⟩ := hkept.sl (i := 1) (x := y1) (by rw [hy]; rfl)
  have e6 := Option.some.inj e6
  injection e6 with e7 e8
  subst e7 e8
  (repeat first | refine ldC ‹Sub _ _› (by assumption) ?_ | refine ld (Cl.cell (by first | assumption | exact Bk.cl (by assumption) rfl)) ?_ | refine ldK (by first | assumption | exact Bk.cl (by assumption) rfl | exact ‹Sub _ _› _ _ _ (by assumption)) ?_)
  refine ix 0 rfl (by omega) ?_
  (repeat first | refine ldC ‹Sub _ _› (by assumption) ?_ | refine ld (Cl.cell (by first | assumption | exact Bk.cl (by assumption) rfl)) ?_ | refine ldK (by first | assumption | exact Bk.cl (by assumption) rfl | exact ‹Sub _ _› _ _ _ (by assumption)) ?_)
  refine br_dec (fun h7 => ?_) (fun h7 => ?_)
  · refine no _ hk13 ?_
    rw [hRES, decide_eq_false (fun e => h7 ?_)]
    rw [hy] at e
    simp at e
    rw [e.1]
    rfl
  have h7 : y0 = [] := List.length_eq_zero_iff.1 (by
    have : (y0.length : Int) = 0 := by simpa using h7
    omega)
  (repeat first | refine ldC ‹Sub _ _› (by assumption) ?_ | refine ld (Cl.cell (by first | assumption | exact Bk.cl (by assumption) rfl)) ?_ | refine ldK (by first | assumption | exact Bk.cl (by assumption) rfl | exact ‹Sub _ _› _ _ _ (by assumption)) ?_)
  refine ix 1 rfl (by omega) ?_
  (repeat first | refine ldC ‹Sub _ _› (by assumption) ?_ | refine ld (Cl.cell (by first | assumption | exact Bk.cl (by assumption) rfl)) ?_ | refine ldK (by first | assumption | exact Bk.cl (by assumption) rfl | exact ‹Sub _ _› _ _ _ (by assumption)) ?_)
  refine fill [.bool true] rfl ?_
  refine new fun b8 w8 hb8 hB8 hs8 hk8 => ?_
  have hk18 := hk13.tr hk8
  have hD : Sl rBool (New b8 w8) (some ⟨b8, 0, none⟩) [true] := ⟨by simp, .inr ⟨b8, 0, rfl, fun i x hi => by
    match i with
    | 0 =>
      simp at hi
      subst hi
      exact ⟨[.bool true], rfl, fun j v hj => ⟨Nat.le_refl _, hB8.cu (by simpa using hj)⟩⟩
    | i + 1 => simp at hi⟩⟩
  refine ev_call (equalB_ct (hS3.tr hk8) (New.sub b8 w8) y1 [true] a1 (some ⟨b8, 0, none⟩) c1 1 hsl1 hD) ?_
  rintro e w9 ⟨rfl, hk9⟩
  have hk19 := hk18.tr hk9
  have hB19 := hB1.kp ((hk23.tr hk8).tr hk9) (by simp)
  have hRES : RES = decide (y1 = [true]) := by
    rw [hRES, hy, h7]
    simp
  refine br (fun h8 => ?_) (fun h8 => ?_)
  · exact no _ hk19 (by rw [hRES]; simpa using h8)
  have hRES : RES = true := by rw [hRES]; simpa using h8
  refine ld (hB19.cl rfl).cell ?_
  refine lp τok (fun _ : Unit => [(67, .slice ap 0 cp), (68, .int .i64 0), (69, .int .i64 0)]) (fun _ w' => Kp [] w w') (fun _ => 0) () rfl ⟨rfl, rfl, rfl, trivial⟩ hk19 ?_
  rintro _ w10 hk10
  exact ⟨by rw [hRES]; rfl, hk10⟩

theorem bx_of {C : Mem} {a : Option Addr} (h : Sl rNd C a [Nd.box]) : ∃ b o, a = some ⟨b, o, none⟩ ∧ ∀ w, Sub C w → Bx w b o := by
  obtain ⟨b, o, ha, hc⟩ := h.at (i := 0) (by simp)
  obtain ⟨cs, ⟨rfl, _⟩, h2⟩ := hc 0 Nd.box rfl
  simp only [Nat.zero_mul, Nat.add_zero] at h2
  exact ⟨b, o, ha, fun w hw => ⟨hw _ _ _ (h2 0 _ rfl), hw _ _ _ (h2 1 _ rfl), hw _ _ _ (h2 2 _ rfl)⟩⟩

theorem entsOk_drop {bodies : List (List Nd)} {shapes : List Shp} {k : Nat} {x : List Nd} {s : Shp} (hx : bodies.drop k = x :: bodies.drop (k + 1)) (hs : shapes.drop k = s :: shapes.drop (k + 1)) : entsOk (bodies.drop k) (shapes.drop k) = (entOk x s && entsOk (bodies.drop (k + 1)) (shapes.drop (k + 1))) := by
  rw [hx, hs]
  rfl

theorem right_ct {C : Mem} {w : World} (hS : Sub C w) (bodies : List (List Nd)) (shapes : List Shp) (nat : Int) (ab ash am ap : Option Addr) (cb cs cm cp : Nat) (hb : Sl (rSl rNd) C ab bodies) (hs : Sl rShp C ash shapes) (hm : Sl rNd C am [Nd.box])
    (hbox : ∀ b ∈ bodies, b = [] ∨ b = [Nd.box]) (hb64 : bodies.length ≤ 64) (hs64 : shapes.length ≤ 64) :
    CallOk Tryz.prog 94 ∧ Calls Tryz.prog 94 #[.agg #[.slice ab bodies.length cb, .slice ash shapes.length cs, .slice am 1 cm, .int .i64 nat, .slice ap 0 cp]] w (fun e w' => ∃ n : Int, e = .returned (.int .i64 n) ∧ decide (n = 0) = rightM bodies shapes nat ∧ Kp [] w w') := by
  obtain ⟨RES, hRES⟩ : ∃ r, rightM bodies shapes nat = r := ⟨_, rfl⟩
  rw [hRES]
  refine ⟨⟨_, Tryz.func94, rfl, by decide⟩, ?_⟩
  refine calls_of (args := [_]) 74 [.tmp 2] τok Tryz.func94 rfl rfl rfl (Nat.le_of_ble_eq_true rfl) ?_
  refine new fun b1 w1 hb1 hB1 hs1 hk1 => ?_
  have hB1 : Bk w1.heap b1 [.slice ab bodies.length cb, .slice ash shapes.length cs, .slice am 1 cm, .int .i64 nat, .slice ap 0 cp] 94 := hB1
  have hS1 := hS.tr hk1
  (repeat first | refine ldC ‹Sub _ _› (by assumption) ?_ | refine ld (Cl.cell (by first | assumption | exact Bk.cl (by assumption) rfl)) ?_ | refine ldK (by first | assumption | exact Bk.cl (by assumption) rfl | exact ‹Sub _ _› _ _ _ (by assumption)) ?_)
  refine br_dec (fun h1 => ?_) (fun h1 => ?_)
  · exact absurd h1 (by omega)
  (repeat first | refine ldC ‹Sub _ _› (by assumption) ?_ | refine ld (Cl.cell (by first | assumption | exact Bk.cl (by assumption) rfl)) ?_ | refine ldK (by first | assumption | exact Bk.cl (by assumption) rfl | exact ‹Sub _ _› _ _ _ (by assumption)) ?_)
  refine br_dec (fun h2 => ?_) (fun h2 => ?_)
  · exact absurd h2 (by omega)
  (repeat first | refine ldC ‹Sub _ _› (by assumption) ?_ | refine ld (Cl.cell (by first | assumption | exact Bk.cl (by assumption) rfl)) ?_ | refine ldK (by first | assumption | exact Bk.cl (by assumption) rfl | exact ‹Sub _ _› _ _ _ (by assumption)) ?_)
  refine br_dec (fun h3 => ?_) (fun h3 => ?_)
  · exact ⟨8, rfl, by rw [← hRES]; unfold rightM; rw [decide_eq_false (p := bodies.length = shapes.length) (fun e => h3 (by rw [e]))]; rfl, hk1⟩
  have hl : bodies.length = shapes.length := by
    have : (bodies.length : Int) = shapes.length := by simpa using h3
    omega
  unfold rightM at hRES
  rw [decide_eq_true hl, Bool.true_and] at hRES
  (repeat first | refine ldC ‹Sub _ _› (by assumption) ?_ | refine ld (Cl.cell (by first | assumption | exact Bk.cl (by assumption) rfl)) ?_ | refine ldK (by first | assumption | exact Bk.cl (by assumption) rfl | exact ‹Sub _ _› _ _ _ (by assumption)) ?_)
  refine lp τok (σ := Nat) (fun k => [(1, .pointer (some ⟨b1, 0, none⟩)), (24, .slice ab bodies.length cb), (25, .int .i64 bodies.length), (26, .int .i64 k)])
    (fun k w' => k ≤ bodies.length ∧ Kp [] w1 w' ∧ RES = (entsOk (bodies.drop k) (shapes.drop k) && natOk bodies shapes nat)) (fun k => bodies.length - k) 0 rfl ⟨rfl, rfl, rfl, rfl, trivial⟩ ⟨Nat.zero_le _, Kp.refl _ _, hRES.symm⟩ ?_
  rintro k w2 ⟨hk, hkp, hr⟩
  have hB2 := hB1.kp hkp (by simp)
  have hS2 := hS1.tr hkp
  refine br_dec (fun h4 => ?_) (fun h4 => ?_)
  · have hlt : k < bodies.length := by omega
    obtain ⟨x, hx, hdx⟩ := drop_get hlt
    obtain ⟨s, hsx, hds⟩ := drop_get (l := shapes) (k := k) (by omega)
    rw [entsOk_drop hdx hds, Bool.and_assoc] at hr
    have hxb := hbox x (List.mem_of_getElem? hx)
    obtain ⟨b, o, rfl, ax, cx, hcx, hslx⟩ := hb.sl hx
    obtain ⟨b', o', rfl, ak, ck, hkept, _, hcp, hck⟩ := sl_shp hs hsx
    refine ix k rfl hlt ?_
    (repeat first | refine ldC ‹Sub _ _› (by assumption) ?_ | refine ld (Cl.cell (by first | assumption | exact Bk.cl (by assumption) rfl)) ?_ | refine ldK (by first | assumption | exact Bk.cl (by assumption) rfl | exact ‹Sub _ _› _ _ _ (by assumption)) ?_)
    refine ix k rfl (by omega) ?_
    refine ldN [.int .i64 s.params, .slice ak s.kept.length ck] rfl (fun j v hj => ?_) ?_
    · match j with
      | 0 => simp at hj; subst hj; exact hS2 _ _ _ hcp
      | 1 => simp at hj; subst hj; exact hS2 _ _ _ hck
      | j + 2 => simp at hj
    refine new fun b3 w3 hb3 hB3 hs3 hk3 => ?_
    refine stN hB3 rfl (by simp [Value.oneCell']) fun w4 hB4 hs4 hk4 => ?_
    have hk24 : Kp [] w2 w4 := hk3.newSt hb3 hk4
    have hkp4 := hkp.tr hk24
    refine ldN [.int .i64 s.params, .slice ak s.kept.length ck] rfl (fun j v hj => by rw [Nat.zero_add]; exact hB4.cl hj) ?_
    refine ev_call (shapedS_ct (hS1.tr hkp4) s ak ck hkept) ?_
    rintro e w5 ⟨rfl, hk5⟩
    have hkp5 := hkp4.tr hk5
    have hB5 := hB4.kp hk5 (by simp)
    have no : ∀ w', Kp [] w1 w' → entOk x s = false → ∃ n : Int, Ending.returned (one [.int .i64 8]) = .returned (.int .i64 n) ∧ decide (n = 0) = RES ∧ Kp [] w w' := fun w' h e => ⟨8, rfl, by rw [hr, e]; rfl, hk1.tr h⟩
    refine br (fun h5 => ?_) (fun h5 => ?_)
    · exact no _ hkp5 (by unfold entOk; rw [show shpOk s = false by simpa using h5]; rfl)
    have h5 : shpOk s = true := by simpa using h5
    have go : ∀ w', Kp [] w1 w' → entOk x s = true → RES = (entsOk (bodies.drop (k + 1)) (shapes.drop (k + 1)) && natOk bodies shapes nat) := fun w' h e => by rw [hr, e, Bool.true_and]
    refine br_dec (fun h6 => ?_) (fun h6 => ?_)
    · have hx1 : x = [Nd.box] := by
        rcases hxb with e | e
        · rw [e] at h6; simp at h6
        · exact e
      (repeat first | refine ldC ‹Sub _ _› (by assumption) ?_ | refine ld (Cl.cell (by first | assumption | exact Bk.cl (by assumption) rfl)) ?_ | refine ldK (by first | assumption | exact Bk.cl (by assumption) rfl | exact ‹Sub _ _› _ _ _ (by assumption)) ?_)
      refine br_dec (fun h7 => ?_) (fun h7 => ?_)
      · exact no _ hkp5 (by unfold entOk; rw [h5, hx1, decide_eq_false h7]; rfl)
      (repeat first | refine ldC ‹Sub _ _› (by assumption) ?_ | refine ld (Cl.cell (by first | assumption | exact Bk.cl (by assumption) rfl)) ?_ | refine ldK (by first | assumption | exact Bk.cl (by assumption) rfl | exact ‹Sub _ _› _ _ _ (by assumption)) ?_)
      refine br_dec (fun h8 => ?_) (fun h8 => ?_)
      · exact no _ hkp5 (by unfold entOk; rw [h5, hx1, decide_eq_false (show ¬ s.kept.length = 0 by omega)]; simp)
      have hB15 := hB1.kp hkp5 (by simp)
      refine ldN [.slice (some ⟨b, o, none⟩) bodies.length cb, .slice (some ⟨b', o', none⟩) shapes.length cs, .slice am 1 cm, .int .i64 nat, .slice ap 0 cp] rfl (fun j v hj => by rw [Nat.zero_add]; exact hB15.cl hj) ?_
      subst hx1
      obtain ⟨bb, oo, rfl, hbx⟩ := bx_of hslx
      refine ev_call (there_box cx _ k (hbx w5 (hS1.tr hkp5))) ?_
      rintro e w6 ⟨rfl, hk6⟩
      have hkp6 := hkp5.tr hk6
      refine int64 (by omega) (by omega) ?_
      exact ⟨k + 1, by omega, rfl, ⟨rfl, rfl, rfl, rfl, trivial⟩, hlt, hkp6, go _ hkp6 (by unfold entOk; rw [h5, decide_eq_true (show s.params = 0 by simpa using h7), decide_eq_true (show s.kept.length = 0 by omega)]; simp)⟩
    · refine int64 (by omega) (by omega) ?_
      exact ⟨k + 1, by omega, rfl, ⟨rfl, rfl, rfl, rfl, trivial⟩, hlt, hkp5, go _ hkp5 (by unfold entOk; rw [h5, decide_eq_true (show x.length = 0 by omega)]; rfl)⟩
  · rw [List.drop_eq_nil_of_le (by omega)] at hr
    have hr : RES = natOk bodies shapes nat := hr
    refine ldN [.slice ab bodies.length cb, .slice ash shapes.length cs, .slice am 1 cm, .int .i64 nat, .slice ap 0 cp] rfl (fun j v hj => by rw [Nat.zero_add]; exact hB2.cl hj) ?_
    (repeat first | refine ldC ‹Sub _ _› (by assumption) ?_ | refine ld (Cl.cell (by first | assumption | exact Bk.cl (by assumption) rfl)) ?_ | refine ldK (by first | assumption | exact Bk.cl (by assumption) rfl | exact ‹Sub _ _› _ _ _ (by assumption)) ?_)
    obtain ⟨bb, oo, rfl, hbx⟩ := bx_of hm
    refine ev_call (there_box cm _ _ (hbx w2 hS2)) ?_
    rintro e w3 ⟨rfl, hk3⟩
    have hB3 := hB2.kp hk3 (by simp)
    refine ldN [.slice ab bodies.length cb, .slice ash shapes.length cs, .slice (some ⟨bb, oo, none⟩) 1 cm, .int .i64 nat, .slice ap 0 cp] rfl (fun j v hj => by rw [Nat.zero_add]; exact hB3.cl hj) ?_
    refine ev_call (registered_ct (hS2.tr hk3) bodies shapes nat ab ash ap cb cs cp _ hb hs hl) ?_
    rintro e w4 ⟨rfl, hk4⟩
    have hk14 := ((hk1.tr hkp).tr hk3).tr hk4
    refine br (fun h5 => ?_) (fun h5 => ?_)
    · exact ⟨22, rfl, by rw [hr, show natOk bodies shapes nat = false by simpa using h5]; rfl, hk14⟩
    · exact ⟨0, rfl, by rw [hr, show natOk bodies shapes nat = true by simpa using h5]; rfl, hk14⟩
end Go.Proofs.YtbggaljmollhmaaGreatDoor

